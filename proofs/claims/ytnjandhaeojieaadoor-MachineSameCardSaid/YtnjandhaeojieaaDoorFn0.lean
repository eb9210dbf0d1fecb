/- The functions, part 0: how they are called, printed by am3.py. -/
import Derived.Test.YtnjandhaeojieaaDoorEngX
import Derived.Test.YtnjandhaeojieaaDoorProg
import Derived.KernelRfl
set_option linter.unusedVariables false
namespace Go.Proofs.YtnjandhaeojieaaDoor
open Go.AM
noncomputable def bodyOf (f : Func) : Code := match f.body with
  | some c => c
  | none => .skip
noncomputable def planL : List (Nat × List (Nat × LP)) := [(3, [(1, ⟨[1, 2, 3], [192], [], [], false, []⟩), (2, ⟨[1, 2, 3, 17], [192], [], [], false, []⟩), (3, ⟨[1, 2, 3], [192], [], [], false, []⟩), (4, ⟨[1, 3, 7], [192], [], [], false, []⟩), (5, ⟨[1, 3, 7, 8, 9], [192], [(8, 3), (9, 3)], [], false, []⟩), (6, ⟨[3, 8, 57], [192], [(8, 3)], [], false, []⟩), (7, ⟨[3, 8], [192], [(8, 3)], [], false, []⟩), (2000000, ⟨[6], [], [], [], false, []⟩)]),
  (4, [(1, ⟨[1, 2, 3], [192], [], [], false, []⟩), (2, ⟨[1, 2, 3, 16], [192], [], [], false, []⟩), (3, ⟨[1, 2, 3], [192], [], [], false, []⟩), (4, ⟨[1, 2, 3, 7], [192, 448], [], [], false, []⟩), (5, ⟨[1, 2, 3, 7, 27], [192, 448], [], [], false, []⟩), (6, ⟨[3, 7], [192, 448], [], [], false, []⟩), (7, ⟨[1, 2, 3, 7], [192, 448], [], [], false, []⟩), (8, ⟨[1, 2, 3, 7], [192, 448], [], [(448, 2, 36)], false, []⟩), (9, ⟨[1, 2, 3, 7], [192, 448], [], [(448, 2, 36)], false, []⟩), (10, ⟨[2, 3, 7], [192, 448], [], [(448, 2, 36)], false, []⟩), (2000000, ⟨[6], [], [], [], false, []⟩)]),
  (9, [(1, ⟨[1], [64], [], [], false, []⟩), (2, ⟨[10], [], [], [], false, []⟩), (3, ⟨[], [], [], [], false, []⟩), (2000000, ⟨[2], [], [], [], false, []⟩)]),
  (10, [(1, ⟨[], [], [], [], false, []⟩), (2, ⟨[1], [64], [], [(64, 1, 36), (64, 2, 36)], false, []⟩), (3, ⟨[1, 2], [64], [(2, 3)], [(64, 1, 36), (64, 2, 36)], false, []⟩), (2000000, ⟨[0], [], [], [], false, []⟩)]),
  (11, [(1, ⟨[1, 2], [128], [], [], false, []⟩), (2, ⟨[1, 2, 14], [128], [], [], false, []⟩), (3, ⟨[1, 2], [128], [], [], false, []⟩), (4, ⟨[1, 2, 5], [128], [], [], false, []⟩), (5, ⟨[1, 2, 5, 6, 7], [128], [], [], false, []⟩), (6, ⟨[2, 5, 6, 7, 17, 18, 19], [128], [(5, 3)], [], false, []⟩), (7, ⟨[2, 5, 6, 7, 17, 18, 19, 20], [128], [(5, 3)], [], false, []⟩), (8, ⟨[2, 5, 6, 7, 9, 17, 18, 19], [128], [(5, 3)], [], false, []⟩), (9, ⟨[2, 5, 10, 11, 17, 18, 19], [128, 640], [(5, 3)], [], false, []⟩), (10, ⟨[2, 5, 10, 17, 18, 19], [128, 640], [(5, 3)], [], false, []⟩), (11, ⟨[2, 5, 10, 17, 18, 19], [128, 640], [(5, 3)], [], false, []⟩), (12, ⟨[2, 5, 6, 7, 17, 18, 19], [128], [(5, 3)], [], false, []⟩), (13, ⟨[5], [], [(5, 3)], [], true, []⟩), (1000000, ⟨[5], [], [(5, 3)], [], false, []⟩), (2000000, ⟨[4], [], [(4, 3)], [], false, []⟩)]),
  (12, [(1, ⟨[0, 1], [], [], [], false, []⟩), (2, ⟨[0, 1, 10], [], [], [], false, []⟩), (3, ⟨[0, 1], [], [], [], false, []⟩), (4, ⟨[0, 1, 12, 13], [], [], [], false, []⟩), (5, ⟨[0, 1, 12, 13, 14], [], [], [], false, []⟩), (6, ⟨[0, 1, 5, 12, 13], [], [], [], false, []⟩), (7, ⟨[0, 1, 12, 13, 24], [], [], [], false, []⟩), (8, ⟨[0, 1, 12, 13], [], [], [], false, []⟩), (9, ⟨[], [], [], [], false, []⟩), (1000000, ⟨[], [], [], [], false, []⟩), (2000000, ⟨[4], [], [], [], false, []⟩)]),
  (13, [(1, ⟨[1], [64], [], [], false, []⟩), (2, ⟨[1, 3], [64], [], [], false, []⟩), (4, ⟨[1, 12], [64], [], [], false, []⟩), (6, ⟨[23], [], [], [], false, []⟩), (7, ⟨[], [], [], [], true, []⟩), (2000000, ⟨[2], [], [], [], false, []⟩)]),
  (14, [(1, ⟨[2, 3], [128, 192], [], [], false, []⟩), (2000000, ⟨[4], [], [], [], false, []⟩)]),
  (16, [(1, ⟨[1], [64], [], [], false, []⟩), (2, ⟨[1, 3], [64], [], [], false, []⟩), (4, ⟨[1, 12], [64], [], [], false, []⟩), (6, ⟨[23], [], [], [], false, []⟩), (7, ⟨[], [], [], [], true, []⟩), (2000000, ⟨[2], [], [], [], false, []⟩)]),
  (17, [(1, ⟨[1], [64], [], [], false, []⟩), (2, ⟨[1, 12], [64], [], [], false, []⟩), (3, ⟨[1], [64], [], [], false, []⟩), (4, ⟨[1, 3], [64, 192], [], [], false, []⟩), (5, ⟨[1, 3, 4], [64, 192], [], [], false, []⟩), (6, ⟨[1, 3, 4, 5], [64, 192], [], [], false, []⟩), (7, ⟨[1, 3, 4, 5, 16], [64, 192], [], [], false, []⟩), (8, ⟨[1, 3, 4, 5], [64, 192], [], [], true, []⟩), (9, ⟨[1, 3, 4], [64, 192], [], [(192, 1, 5)], false, []⟩), (10, ⟨[1, 3, 4, 21, 22, 23], [64, 192], [], [(192, 1, 5)], false, []⟩), (11, ⟨[1, 3, 4, 21, 22, 23, 24], [64, 192], [], [(192, 1, 5)], false, []⟩), (12, ⟨[1, 3, 4, 7, 21, 22, 23], [64, 192, 448], [], [(192, 1, 5)], false, []⟩), (13, ⟨[1, 3, 4, 21, 22, 23], [64, 192], [], [(192, 1, 5)], false, []⟩), (14, ⟨[1, 3, 4], [64, 192], [], [(192, 1, 5)], false, []⟩), (15, ⟨[3, 4, 32, 33, 34], [192], [], [(192, 1, 5)], false, []⟩), (16, ⟨[3, 4, 32, 33, 34, 35], [192], [], [(192, 1, 5)], false, []⟩), (17, ⟨[3, 4, 9, 32, 33, 34], [192, 576], [], [(192, 1, 5)], false, []⟩), (18, ⟨[3, 4, 32, 33, 34], [192], [], [(192, 1, 5)], false, []⟩), (19, ⟨[3], [192], [], [(192, 1, 5)], false, []⟩), (1000000, ⟨[1, 3, 4], [64, 192], [], [(192, 1, 5)], false, []⟩), (1000002, ⟨[3], [192], [], [(192, 1, 5)], false, []⟩), (2000000, ⟨[2], [], [], [], false, []⟩)]),
  (23, [(1, ⟨[0, 1, 2, 6], [384], [], [], false, []⟩), (2, ⟨[0, 6, 8, 9], [384], [], [], false, []⟩), (3, ⟨[0, 6, 8, 19], [384], [], [], false, []⟩), (4, ⟨[0, 6, 8], [384], [], [], false, []⟩), (2000000, ⟨[6, 7], [384], [], [], false, []⟩)]),
  (24, [(1, ⟨[0, 1], [], [], [], false, []⟩), (2, ⟨[0, 1, 9, 10, 11], [], [], [], false, []⟩), (3, ⟨[0, 1, 9, 10, 11, 12], [], [], [], false, []⟩), (4, ⟨[0, 1, 5, 6, 9, 10, 11], [384], [], [], false, []⟩), (5, ⟨[0, 1, 5, 6, 9, 10, 11, 24, 25], [384], [], [], false, []⟩), (6, ⟨[0, 1, 5, 6, 9, 10, 11, 24, 25, 26], [384], [], [], false, []⟩), (7, ⟨[0, 1, 5, 6, 8, 9, 10, 11, 24, 25], [384], [], [], false, []⟩), (8, ⟨[0, 1, 5, 6, 9, 10, 11, 24, 25, 33], [384], [], [], false, []⟩), (9, ⟨[0, 1, 5, 6, 9, 10, 11, 24, 25], [384], [], [], true, []⟩), (10, ⟨[0, 1, 5, 6, 9, 10, 11], [384], [], [], false, []⟩), (11, ⟨[0, 1, 5, 6, 9, 10, 11, 40], [384], [], [], false, []⟩), (12, ⟨[0, 1, 5, 6, 9, 10, 11], [384], [], [], true, []⟩), (13, ⟨[0, 1, 9, 10, 11, 75], [], [], [], false, []⟩), (14, ⟨[0, 1, 9, 10, 11], [], [], [], true, []⟩), (15, ⟨[], [], [], [], false, []⟩), (1000000, ⟨[], [], [], [], false, []⟩), (1000002, ⟨[0, 1, 5, 6, 9, 10, 11], [384], [], [], false, []⟩), (2000000, ⟨[4], [], [], [], false, []⟩)]),
  (25, [(1, ⟨[0, 1], [], [], [], false, []⟩), (2, ⟨[0, 1, 10], [], [], [], false, []⟩), (3, ⟨[0, 1], [], [], [], false, []⟩), (4, ⟨[0, 1, 12, 13], [], [], [], false, []⟩), (5, ⟨[0, 1, 12, 13, 14], [], [], [], false, []⟩), (6, ⟨[0, 1, 5, 12, 13], [], [], [], false, []⟩), (7, ⟨[0, 1, 12, 13, 24], [], [], [], false, []⟩), (8, ⟨[0, 1, 12, 13], [], [], [], false, []⟩), (9, ⟨[], [], [], [], false, []⟩), (1000000, ⟨[], [], [], [], false, []⟩), (2000000, ⟨[4], [], [], [], false, []⟩)]),
  (28, [(1, ⟨[0, 1], [], [], [], false, []⟩), (2, ⟨[0, 1, 7, 8, 9], [], [], [], false, []⟩), (3, ⟨[0, 1, 7, 8, 9, 10], [], [], [], false, []⟩), (4, ⟨[0, 1, 5, 6, 7, 8, 9], [384], [], [], false, []⟩), (5, ⟨[0, 1, 7, 8, 9, 57], [], [], [], false, []⟩), (6, ⟨[0, 1, 7, 8, 9], [], [], [], true, []⟩), (7, ⟨[], [], [], [], false, []⟩), (1000000, ⟨[], [], [], [], false, []⟩), (2000000, ⟨[4], [], [], [], false, []⟩)]),
  (29, [(1, ⟨[0, 2, 4], [256, 4000000], [], [(4000000, 1, 5)], false, []⟩), (2000000, ⟨[], [], [], [], false, []⟩)]),
  (30, [(1, ⟨[0, 1], [4000000], [], [(4000000, 1, 5)], false, []⟩), (2, ⟨[0, 1], [4000000], [], [(4000000, 1, 5)], false, []⟩), (3, ⟨[1], [4000000], [], [(4000000, 1, 5)], false, []⟩), (2000000, ⟨[4, 5], [4000000], [], [(4000000, 1, 5)], false, []⟩)]),
  (37, [(1, ⟨[0, 2, 4], [256], [], [], false, []⟩), (2, ⟨[0, 2, 4, 8], [256], [], [], false, []⟩), (3, ⟨[0, 2, 4, 8, 9, 10], [256], [], [], false, []⟩), (4, ⟨[0, 2, 4, 8, 9, 10], [256], [], [], false, []⟩), (5, ⟨[0, 2, 4, 8, 9, 10, 11], [256], [], [], false, []⟩), (6, ⟨[0, 2, 4, 8, 9, 10, 11, 31], [256], [], [], false, []⟩), (8, ⟨[0, 2, 4, 8, 9], [256], [], [], false, []⟩), (1000000, ⟨[0, 2, 4, 8, 9], [256], [], [], false, []⟩), (2000000, ⟨[6, 7], [], [], [], false, []⟩)]),
  (38, [(1, ⟨[2, 3], [128, 192], [], [], false, []⟩), (2000000, ⟨[4], [], [], [], false, []⟩)]),
  (45, [(1, ⟨[0], [], [], [], false, []⟩), (2000000, ⟨[2], [], [], [], false, []⟩)]),
  (49, [(1, ⟨[0], [], [], [], false, []⟩), (2, ⟨[0, 3], [], [], [], false, []⟩), (3, ⟨[3, 6, 7, 8], [], [], [], false, []⟩), (4, ⟨[3, 6, 7, 8, 9], [], [], [], false, []⟩), (5, ⟨[3, 5, 6, 7, 8], [], [], [], false, []⟩), (6, ⟨[3, 5, 6, 7, 8, 14], [], [], [], false, []⟩), (7, ⟨[3, 6, 7, 8], [], [], [], false, []⟩), (8, ⟨[3], [], [], [], false, []⟩), (1000000, ⟨[3], [], [], [], false, []⟩), (2000000, ⟨[2], [], [], [], false, []⟩)]),
  (50, [(1, ⟨[0, 1], [], [], [], false, []⟩), (2, ⟨[0, 1, 5], [], [], [], false, []⟩), (3, ⟨[0, 1, 5, 6], [], [], [], false, []⟩), (4, ⟨[0, 1, 6, 11], [], [], [], false, []⟩), (5, ⟨[12], [], [], [], false, []⟩), (6, ⟨[], [], [], [], false, []⟩), (7, ⟨[0, 1, 6], [], [], [], false, []⟩), (8, ⟨[0, 1, 13], [], [], [], false, []⟩), (9, ⟨[0, 1], [], [], [], false, []⟩), (10, ⟨[0, 1, 16], [], [], [], false, []⟩), (11, ⟨[0, 1], [], [], [], false, []⟩), (12, ⟨[19], [], [], [], false, []⟩), (13, ⟨[], [], [], [], false, []⟩), (2000000, ⟨[4], [], [], [], false, []⟩)]),
  (61, [(1, ⟨[0], [], [], [], false, []⟩), (2000000, ⟨[2], [], [], [], false, []⟩)])]
noncomputable def look {α : Type} : List (Nat × α) → Nat → Option α
  | [], _ => none
  | (k, x) :: r, q => bif Nat.beq k q then some x else look r q
noncomputable def PL (f r : Nat) : Option LP := match look planL f with
  | some l => look l r
  | none => none
noncomputable def tplL : List (Nat × Tpl) := [(3, ⟨[.b 0], [], []⟩),
  (4, ⟨[.b 0], [], []⟩),
  (9, ⟨[.i .i64 0], [], []⟩),
  (10, ⟨[.b 0], [], []⟩),
  (11, ⟨[.row 40 3 0], [], []⟩),
  (12, ⟨[.b 0], [], []⟩),
  (13, ⟨[.i .i64 0], [], []⟩),
  (14, ⟨[.b 0], [], []⟩),
  (16, ⟨[.i .i64 0], [], []⟩),
  (17, ⟨[.s 0], [], []⟩),
  (23, ⟨[.ag [.i .i64 0, .i .i64 1, .i .i64 2, .i .i64 3], .b 4], [], []⟩),
  (24, ⟨[.b 0], [], []⟩),
  (25, ⟨[.b 0], [], []⟩),
  (28, ⟨[.b 0], [], []⟩),
  (29, ⟨[], [⟨4000000, 4000000, 57, [.ptr 4000000 0, .row 40 5 0]⟩], []⟩),
  (30, ⟨[.i .i64 0, .und], [⟨4000000, 4000000, 57, [.ptr 4000000 0, .row 40 5 1]⟩], []⟩),
  (31, ⟨[.s 0], [], []⟩),
  (32, ⟨[.s 0], [], []⟩),
  (33, ⟨[.s 0], [], []⟩),
  (37, ⟨[.i .i64 0, .b 1], [], []⟩),
  (38, ⟨[.i .i64 0], [], []⟩),
  (39, ⟨[], [], [(4000000, 3, 0)]⟩),
  (45, ⟨[.b 0], [], []⟩),
  (46, ⟨[], [⟨4000000, 4000000, 57, [.ptr 4000000 0, .row 40 5 0]⟩], []⟩),
  (49, ⟨[.i .i64 0], [], []⟩),
  (50, ⟨[.i .i64 0], [], []⟩),
  (61, ⟨[.b 0], [], []⟩)]
noncomputable def TPL (f : Nat) : Tpl := match look tplL f with
  | some t => t
  | none => ⟨[], [], []⟩
noncomputable def lendL : List (Nat × Nat) := [(29, 2), (30, 0), (33, 0), (46, 0)]
noncomputable def FR : Fr := ⟨fun f j => lendL.any fun x => Nat.beq x.1 f && Nat.beq x.2 j, TPL⟩
noncomputable def EXT : FuncId → Option (List AV → Store → Option R) := fun f => bif Nat.beq f 31 then some joinX else bif Nat.beq f 32 then some itoaX else bif Nat.beq f 33 then some stringX else bif Nat.beq f 46 then some checkX else none
noncomputable def K (n : Nat) : H := call Tryd.prog PL FR EXT n
noncomputable def C_parrylaw25_MachineSteps (h : H) (p0 : Int) (p1 : T) (p2 : T) (p3 : T) (p4 : Int) : Option R := h 3 [.ag [.i .i64 p0, .sl 36 p1, .sl 36 p2], .sl 3 p3, .i .i64 p4] []
noncomputable def C_parrylaw25_MachineSame (h : H) (p0 : Int) (p1 : T) (p2 : T) (p3 : Int) (p4 : Int) : Option R := h 4 [.ag [.i .i64 p0, .sl 36 p1, .sl 36 p2], .i .i64 p3, .i .i64 p4] []
noncomputable def C_parrylaw25_Heavy (h : H) (p0 : Int) (p1 : T) (p2 : T) : Option R := h 9 [.ag [.i .i64 p0, .sl 36 p1, .sl 36 p2]] []
noncomputable def C_parrylaw25_awake (h : H)  : Option R := h 10 [] []
noncomputable def C_machine_Run (h : H) (p0 : Int) (p1 : T) (p2 : T) (p3 : T) : Option R := h 11 [.ag [.i .i64 p0, .sl 36 p1, .sl 36 p2], .sl 3 p3] []
noncomputable def C_parryref9_SameInts (h : H) (p0 : T) (p1 : T) : Option R := h 12 [.sl 3 p0, .sl 3 p1] []
noncomputable def C_parryref25_May (h : H) (p0 : Int) (p1 : T) (p2 : T) : Option R := h 13 [.ag [.i .i64 p0, .sl 36 p1, .sl 36 p2]] []
noncomputable def C_machine_Same (h : H) (p0 : Int) (p1 : T) (p2 : T) (p3 : Int) (p4 : T) (p5 : T) : Option R := h 14 [.ag [.i .i64 p0, .sl 36 p1, .sl 36 p2], .ag [.i .i64 p3, .sl 36 p4, .sl 36 p5]] []
noncomputable def C_machine_Text (h : H) (p0 : Int) (p1 : T) (p2 : T) : Option R := h 17 [.ag [.i .i64 p0, .sl 36 p1, .sl 36 p2]] []
noncomputable def C_machine_May (h : H) (p0 : Int) (p1 : T) (p2 : T) : Option R := h 16 [.ag [.i .i64 p0, .sl 36 p1, .sl 36 p2]] []
noncomputable def C_machine_find (h : H) (p0 : T) (p1 : Int) (p2 : Int) : Option R := h 23 [.sl 36 p0, .i .i64 p1, .i .i64 p2] []
noncomputable def C_parryref25_mayRows (h : H) (p0 : T) (p1 : Bool) : Option R := h 24 [.sl 36 p0, .b p1] []
noncomputable def C_slices_Equal_Row (h : H) (p0 : T) (p1 : T) : Option R := h 25 [.sl 36 p0, .sl 36 p1] []
noncomputable def C_strings_Builder_WriteString (h : H) (p0 : Nat) (p1 : ByteArray) (p2 : (Nat → Nat → T)) : Option R := h 30 [.ptr 4000000 0, .s p1] [(4000000, .box 57 [.clo 1000000 [], .row 4000009 0 p0]), (4000009, .row 5 p0 p2)]
noncomputable def C_strings_Builder_copyCheck (h : H) (p0 : Nat) (p1 : (Nat → Nat → T)) : Option R := h 46 [.ptr 4000000 0] [(4000000, .box 57 [.clo 1000000 [], .row 4000009 0 p0]), (4000009, .row 5 p0 p1)]
noncomputable def C_strings_Builder_String (h : H) (p0 : Nat) (p1 : (Nat → Nat → T)) : Option R := h 33 [.ptr 4000000 0] [(4000000, .box 57 [.ptr 4000000 0, .row 4000009 0 p0]), (4000009, .row 5 p0 p1)]
noncomputable def C_strconv_Itoa (h : H) (p0 : Int) : Option R := h 32 [.i .i64 p0] []
noncomputable def C_machine_Text_1 (h : H) (p0 : Nat) (p1 : ByteArray) (p2 : Int) (p3 : Int) (p4 : Int) (p5 : Int) (p6 : (Nat → Nat → T)) : Option R := h 29 [.s p1, .ag [.i .i64 p2, .i .i64 p3, .i .i64 p4, .i .i64 p5], .ptr 4000000 0] [(4000000, .box 57 [.ptr 4000000 0, .row 4000009 0 p0]), (4000009, .row 5 p0 p6)]
noncomputable def C_machine_may (h : H) (p0 : T) (p1 : Bool) : Option R := h 28 [.sl 36 p0, .b p1] []
noncomputable def C_slices_BinarySearchFunc_Row_by_machine_order (h : H) (p0 : T) (p1 : Int) (p2 : Int) (p3 : Int) (p4 : Int) : Option R := h 37 [.sl 36 p0, .ag [.i .i64 p1, .i .i64 p2, .i .i64 p3, .i .i64 p4], .clo 38 []] []
noncomputable def C_strings_Join (h : H) (p0 : T) (p1 : ByteArray) : Option R := h 31 [.sl 9 p0, .s p1] []
noncomputable def C_strings_Builder_WriteString_v1 (h : H) (p0 : Nat) (p1 : ByteArray) (p2 : (Nat → Nat → T)) : Option R := h 30 [.ptr 4000000 0, .s p1] [(4000000, .box 57 [.ptr 4000000 0, .row 4000009 0 p0]), (4000009, .row 5 p0 p2)]
noncomputable def C_machine_number (h : H) (p0 : Int) : Option R := h 45 [.i .i64 p0] []
noncomputable def C_machine_order (h : H) (p0 : Int) (p1 : Int) (p2 : Int) (p3 : Int) (p4 : Int) (p5 : Int) (p6 : Int) (p7 : Int) : Option R := h 38 [.ag [.i .i64 p0, .i .i64 p1, .i .i64 p2, .i .i64 p3], .ag [.i .i64 p4, .i .i64 p5, .i .i64 p6, .i .i64 p7]] []
noncomputable def C_strings_Builder_copyCheck_v1 (h : H) (p0 : Nat) (p1 : (Nat → Nat → T)) : Option R := h 46 [.ptr 4000000 0] [(4000000, .box 57 [.ptr 4000000 0, .row 4000009 0 p0]), (4000009, .row 5 p0 p1)]
noncomputable def C_cmp_Compare_int (h : H) (p0 : Int) (p1 : Int) : Option R := h 50 [.i .i64 p0, .i .i64 p1] []
noncomputable def C_cmp_Or_int (h : H) (p0 : T) : Option R := h 49 [.sl 3 p0] []
noncomputable def C_cmp_isNaN_int (h : H) (p0 : Int) : Option R := h 61 [.i .i64 p0] []
end Go.Proofs.YtnjandhaeojieaaDoor

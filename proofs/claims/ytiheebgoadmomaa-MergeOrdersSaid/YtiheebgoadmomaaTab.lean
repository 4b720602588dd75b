/- The types of the translation, as a table; held against the loaded program by the kernel. Printed by tab.py. -/
import Derived.Test.YtiheebgoadmomaaV4
import Derived.Test.YtiheebgoadmomaaProg
import Derived.KernelRfl
set_option maxRecDepth 100000
namespace Go.Proofs.Ytiheebgoadmomaa
open Go Go.V
def tys : Tys := [
  (1, ⟨.func, 1, 8, some .nilFunc⟩),
  (3, ⟨.int .i64, 1, 8, some (.int .i64 0)⟩),
  (4, ⟨.bool, 1, 1, some (.bool false)⟩),
  (2, ⟨.int .i64, 1, 8, some (.int .i64 0)⟩),
  (30, ⟨.strct [(0, 3, 1), (1, 3, 1), (2, 26, 1), (3, 28, 4), (7, 3, 1), (8, 3, 1)], 9, 72, some (.agg #[(.int .i64 0), (.int .i64 0), (.slice none 0 0), (.int .i64 0), (.int .u8 0), (.bool false), (.bool false), (.int .i64 0), (.int .i64 0)])⟩),
  (5, ⟨.int .u8, 1, 1, some (.int .u8 0)⟩),
  (39, ⟨.strct [(0, 37, 9), (9, 3, 1)], 10, 80, some (.agg #[(.int .i64 0), (.int .i64 0), (.slice none 0 0), (.int .i64 0), (.int .u8 0), (.bool false), (.bool false), (.int .i64 0), (.int .i64 0), (.int .i64 0)])⟩),
  (37, ⟨.strct [(0, 3, 1), (1, 3, 1), (2, 26, 1), (3, 35, 4), (7, 3, 1), (8, 3, 1)], 9, 72, some (.agg #[(.int .i64 0), (.int .i64 0), (.slice none 0 0), (.int .i64 0), (.int .u8 0), (.bool false), (.bool false), (.int .i64 0), (.int .i64 0)])⟩),
  (22, ⟨.slice 25 1, 1, 24, some (.slice none 0 0)⟩),
  (31, ⟨.slice 39 10, 1, 24, some (.slice none 0 0)⟩),
  (60, ⟨.iface, 1, 16, some .nilIface⟩),
  (51, ⟨.slice 55 2, 1, 24, some (.slice none 0 0)⟩),
  (25, ⟨.slice 30 9, 1, 24, some (.slice none 0 0)⟩),
  (55, ⟨.strct [(0, 49, 1), (1, 3, 1)], 2, 32, some (.agg #[(.slice none 0 0), (.int .i64 0)])⟩),
  (26, ⟨.slice 5 1, 1, 24, some (.slice none 0 0)⟩),
  (33, ⟨.slice 49 1, 1, 24, some (.slice none 0 0)⟩),
  (49, ⟨.slice 37 9, 1, 24, some (.slice none 0 0)⟩),
  (9, ⟨.str, 1, 16, some (.string .empty)⟩),
  (41, ⟨.slice 46 10, 1, 24, some (.slice none 0 0)⟩),
  (53, ⟨.ptr 51, 1, 8, some (.pointer none)⟩),
  (28, ⟨.strct [(0, 3, 1), (1, 5, 1), (2, 4, 1), (3, 4, 1)], 4, 16, some (.agg #[(.int .i64 0), (.int .u8 0), (.bool false), (.bool false)])⟩),
  (63, ⟨.ptr 55, 1, 8, some (.pointer none)⟩),
  (35, ⟨.strct [(0, 3, 1), (1, 5, 1), (2, 4, 1), (3, 4, 1)], 4, 16, some (.agg #[(.int .i64 0), (.int .u8 0), (.bool false), (.bool false)])⟩),
  (20, ⟨.iface, 1, 16, some .nilIface⟩),
  (71, ⟨.func, 1, 8, some .nilFunc⟩),
  (46, ⟨.strct [(0, 30, 9), (9, 3, 1)], 10, 80, some (.agg #[(.int .i64 0), (.int .i64 0), (.slice none 0 0), (.int .i64 0), (.int .u8 0), (.bool false), (.bool false), (.int .i64 0), (.int .i64 0), (.int .i64 0)])⟩),
  (62, ⟨.func, 1, 8, some .nilFunc⟩),
  (56, ⟨.func, 1, 8, some .nilFunc⟩),
  (32, ⟨.func, 1, 8, some .nilFunc⟩),
  (23, ⟨.func, 1, 8, some .nilFunc⟩),
  (34, ⟨.func, 1, 8, some .nilFunc⟩),
  (52, ⟨.func, 1, 8, some .nilFunc⟩),
  (67, ⟨.func, 1, 8, some .nilFunc⟩),
  (24, ⟨.func, 1, 8, some .nilFunc⟩),
  (44, ⟨.func, 1, 8, some .nilFunc⟩),
  (48, ⟨.func, 1, 8, some .nilFunc⟩),
  (61, ⟨.func, 1, 8, some .nilFunc⟩),
  (68, ⟨.func, 1, 8, some .nilFunc⟩),
  (42, ⟨.func, 1, 8, some .nilFunc⟩),
  (43, ⟨.func, 1, 8, some .nilFunc⟩),
  (47, ⟨.func, 1, 8, some .nilFunc⟩),
  (58, ⟨.func, 1, 8, some .nilFunc⟩),
  (64, ⟨.func, 1, 8, some .nilFunc⟩),
  (66, ⟨.func, 1, 8, some .nilFunc⟩),
  (69, ⟨.func, 1, 8, some .nilFunc⟩),
  (21, ⟨.int .i32, 1, 4, some (.int .i32 0)⟩),
  (27, ⟨.strct [(0, 3, 1), (1, 5, 1), (2, 4, 1), (3, 4, 1)], 4, 16, some (.agg #[(.int .i64 0), (.int .u8 0), (.bool false), (.bool false)])⟩),
  (40, ⟨.func, 1, 8, some .nilFunc⟩),
  (57, ⟨.func, 1, 8, some .nilFunc⟩),
  (70, ⟨.func, 1, 8, some .nilFunc⟩),
  (88, ⟨.slice 3 1, 1, 24, some (.slice none 0 0)⟩),
  (12, ⟨.int .u64, 1, 8, some (.int .u64 0)⟩),
  (45, ⟨.strct [(0, 30, 9), (9, 3, 1)], 10, 80, some (.agg #[(.int .i64 0), (.int .i64 0), (.slice none 0 0), (.int .i64 0), (.int .u8 0), (.bool false), (.bool false), (.int .i64 0), (.int .i64 0), (.int .i64 0)])⟩),
  (50, ⟨.slice 55 2, 1, 24, some (.slice none 0 0)⟩),
  (65, ⟨.func, 1, 8, some .nilFunc⟩),
  (84, ⟨.strct [(0, 12, 1), (1, 12, 1), (2, 77, 1), (3, 78, 1), (4, 5, 1), (5, 5, 1), (6, 79, 1), (7, 80, 1), (8, 81, 1), (9, 82, 1), (10, 83, 1)], 11, 48, some (.agg #[(.int .u64 0), (.int .u64 0), (.int .u32 0), (.int .u8 0), (.int .u8 0), (.int .u8 0), (.int .u8 0), .nilFunc, (.pointer none), (.int .i32 0), (.int .i32 0)])⟩),
  (29, ⟨.strct [(0, 3, 1), (1, 3, 1), (2, 26, 1), (3, 28, 4), (7, 3, 1), (8, 3, 1)], 9, 72, some (.agg #[(.int .i64 0), (.int .i64 0), (.slice none 0 0), (.int .i64 0), (.int .u8 0), (.bool false), (.bool false), (.int .i64 0), (.int .i64 0)])⟩),
  (36, ⟨.strct [(0, 3, 1), (1, 3, 1), (2, 26, 1), (3, 35, 4), (7, 3, 1), (8, 3, 1)], 9, 72, some (.agg #[(.int .i64 0), (.int .i64 0), (.slice none 0 0), (.int .i64 0), (.int .u8 0), (.bool false), (.bool false), (.int .i64 0), (.int .i64 0)])⟩),
  (54, ⟨.strct [(0, 49, 1), (1, 3, 1)], 2, 32, some (.agg #[(.slice none 0 0), (.int .i64 0)])⟩),
  (59, ⟨.iface, 1, 16, some .nilIface⟩),
  (77, ⟨.int .u32, 1, 4, some (.int .u32 0)⟩),
  (86, ⟨.func, 1, 8, some .nilFunc⟩),
  (38, ⟨.strct [(0, 37, 9), (9, 3, 1)], 10, 80, some (.agg #[(.int .i64 0), (.int .i64 0), (.slice none 0 0), (.int .i64 0), (.int .u8 0), (.bool false), (.bool false), (.int .i64 0), (.int .i64 0), (.int .i64 0)])⟩),
  (74, ⟨.arr 0 16 1, 0, 0, some (.agg #[])⟩),
  (80, ⟨.func, 1, 8, some .nilFunc⟩),
  (81, ⟨.ptr 5, 1, 8, some (.pointer none)⟩)]
theorem tys_ok : tys.map (fun x => probe Try.prog x.1) = tys.map (fun x => some x.2) := by kernel_rfl
theorem tys_mixed : Try.prog.follows .mixedOrders = true := by kernel_rfl
instance tab : Tab Try.prog where
  T := tys
  ok := tys_ok
  mixed := tys_mixed
end Go.Proofs.Ytiheebgoadmomaa

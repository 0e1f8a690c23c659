/- Written by gen_tab.py: of the types that the functions name: fields, sizes, zero values; and that the program has them so. No statement of the seat is proved here. -/
import Derived.Test.YtjefojpbglcjhaaVk
import Derived.Test.YtjefojpbglcjhaaProg
import Derived.KernelRfl
namespace Go.VC
open Go
def TL : TabL where
  st := [(34, [(0, none, 1), (1, none, 1), (2, none, 1), (3, none, 1), (4, none, 1), (5, none, 1), (6, none, 1), (7, none, 1), (8, none, 1), (9, none, 1), (10, none, 1)]),
    (38, [(0, none, 1), (1, none, 1), (2, none, 1), (3, none, 1)]),
    (41, [(0, none, 1), (1, none, 1), (2, none, 1), (3, some 11, 11)]),
    (49, [(0, none, 1), (1, none, 1), (2, none, 1), (3, none, 1), (4, none, 1), (5, none, 1), (6, none, 1)]),
    (54, [(0, none, 1), (1, none, 1), (2, none, 1)]),
    (56, [(0, none, 1), (1, none, 1), (2, none, 1)]),
    (58, [(0, some 3, 3), (3, none, 1), (4, none, 1), (5, none, 1)]),
    (63, [(0, none, 1), (1, none, 1), (2, none, 1), (3, none, 1), (4, none, 1), (5, none, 1), (6, none, 1), (7, none, 1), (8, none, 1), (9, none, 1), (10, none, 1)]),
    (88, [(0, none, 1), (1, none, 1), (2, none, 1), (3, some 4, 4)]),
    (104, [(0, none, 1), (1, none, 1)]),
    (107, [(0, none, 1), (1, none, 1), (2, none, 1), (3, none, 1), (4, none, 1), (5, none, 1)]),
    (120, [(0, none, 1), (1, none, 1), (2, none, 1), (3, some 7, 7)]),
    (130, [(0, none, 1), (1, none, 1), (2, none, 1)]),
    (154, [(0, none, 1), (1, none, 1), (2, none, 1)]),
    (161, [(0, none, 1), (1, none, 1), (2, none, 1), (3, some 4, 4), (7, none, 1)]),
    (195, [(0, none, 1), (1, none, 1), (2, none, 1)]),
    (203, [(0, none, 1), (1, none, 1), (2, none, 1)]),
    (215, [(0, none, 1), (1, some 11, 11), (12, none, 1), (13, none, 1), (14, none, 1)]),
    (217, [(0, none, 1), (1, some 3, 3)]),
    (223, [(0, none, 1)]),
    (227, []),
    (228, []),
    (230, [(0, some 0, 0), (0, some 0, 0), (0, none, 1)]),
    (232, [(0, some 1, 1), (1, none, 1), (2, none, 1), (3, none, 1), (4, none, 1), (5, none, 1), (6, some 1, 1), (7, some 1, 1)]),
    (235, [(0, some 10, 10), (10, none, 1)]),
    (262, [(0, none, 1), (1, none, 1)]),
    (266, [(0, none, 1), (1, none, 1)]),
    (283, [(0, some 0, 0), (0, some 1, 1), (1, some 2, 2)]),
    (285, [(0, none, 1), (1, some 3, 3), (4, none, 1)])]
  one := [2, 3, 4, 5, 9, 21, 22, 23, 26, 27, 30, 31, 32, 44, 45, 64, 74, 81, 102, 109, 110, 113, 117, 174, 184, 188, 193, 207, 213, 218, 221, 224, 225, 236, 245, 256, 274, 286, 288, 312]
  agg := [(34, 11), (38, 4), (41, 14), (49, 7), (54, 3), (56, 3), (58, 6), (63, 11), (88, 7), (104, 2), (105, 6), (107, 6), (120, 10), (130, 3), (154, 3), (161, 8), (195, 3), (203, 3), (215, 15), (217, 4), (223, 1), (227, 0), (228, 0), (230, 1), (232, 8), (235, 11), (262, 2), (266, 2), (283, 3), (285, 5)]
  zero := [(2, ([.int .i64 0], false)),
    (3, ([.int .i64 0], false)),
    (4, ([.bool false], false)),
    (5, ([.int .u8 0], false)),
    (9, ([.string ⟨#[]⟩], false)),
    (21, ([.int .i32 0], false)),
    (22, ([.int .u64 0], false)),
    (23, ([.slice none 0 0], false)),
    (26, ([.pointer none], false)),
    (27, ([.int .i64 0], false)),
    (30, ([.int .u64 0], false)),
    (31, ([.int .u32 0], false)),
    (32, ([.slice none 0 0], false)),
    (34, ([.int .i64 0, .int .u32 0, .int .u32 0, .int .u64 0, .int .u64 0, .int .u32 0, .int .i64 0, .bool false, .int .i64 0, .slice none 0 0, .slice none 0 0], true)),
    (38, ([.int .u32 0, .int .i64 0, .int .u64 0, .int .i64 0], true)),
    (41, ([.int .i64 0, .int .i64 0, .int .i64 0, .int .i64 0, .int .u32 0, .int .u32 0, .int .u64 0, .int .u64 0, .int .u32 0, .int .i64 0, .bool false, .int .i64 0, .slice none 0 0, .slice none 0 0], true)),
    (44, ([.slice none 0 0], false)),
    (45, ([.slice none 0 0], false)),
    (49, ([.int .i64 0, .int .i64 0, .int .i64 0, .bool false, .int .i64 0, .bool false, .int .i64 0], true)),
    (54, ([.int .i64 0, .int .i64 0, .int .i64 0], true)),
    (56, ([.int .i64 0, .int .i64 0, .slice none 0 0], true)),
    (58, ([.int .i64 0, .int .i64 0, .slice none 0 0, .int .i64 0, .int .i64 0, .bool false], true)),
    (63, ([.int .i64 0, .int .u64 0, .int .u32 0, .int .u32 0, .int .i64 0, .bool false, .int .i64 0, .int .i64 0, .int .u64 0, .slice none 0 0, .slice none 0 0], true)),
    (64, ([.nilFunc], false)),
    (74, ([.slice none 0 0], false)),
    (81, ([.pointer none], false)),
    (88, ([.int .u64 0, .int .u64 0, .int .u64 0, .int .u32 0, .int .i64 0, .int .u64 0, .int .i64 0], true)),
    (102, ([.slice none 0 0], false)),
    (104, ([.int .u32 0, .int .u64 0], true)),
    (105, ([.int .u32 0, .int .u64 0, .int .u32 0, .int .u64 0, .int .u32 0, .int .u64 0], true)),
    (107, ([.int .i64 0, .int .i64 0, .int .i64 0, .int .i64 0, .bool false, .int .i64 0], true)),
    (109, ([.slice none 0 0], false)),
    (110, ([.pointer none], false)),
    (113, ([.slice none 0 0], false)),
    (117, ([.slice none 0 0], false)),
    (120, ([.int .u32 0, .slice none 0 0, .slice none 0 0, .int .i64 0, .int .i64 0, .int .i64 0, .bool false, .int .i64 0, .bool false, .int .i64 0], true)),
    (130, ([.int .i64 0, .bool false, .int .i64 0], true)),
    (154, ([.slice none 0 0, .slice none 0 0, .slice none 0 0], true)),
    (161, ([.int .u64 0, .int .u64 0, .int .u64 0, .int .u32 0, .int .i64 0, .int .u64 0, .int .i64 0, .int .i64 0], true)),
    (174, ([.pointer none], false)),
    (184, ([.slice none 0 0], false)),
    (188, ([.pointer none], false)),
    (193, ([.pointer none], false)),
    (195, ([.slice none 0 0, .int .i64 0, .bool false], true)),
    (203, ([.int .i64 0, .int .u64 0, .slice none 0 0], true)),
    (207, ([.slice none 0 0], false)),
    (213, ([.slice none 0 0], false)),
    (215, ([.int .i64 0, .int .i64 0, .int .u64 0, .int .u32 0, .int .u32 0, .int .i64 0, .bool false, .int .i64 0, .int .i64 0, .int .u64 0, .slice none 0 0, .slice none 0 0, .bool false, .int .i64 0, .int .i64 0], true)),
    (217, ([.int .u32 0, .int .i64 0, .bool false, .int .i64 0], true)),
    (218, ([.slice none 0 0], false)),
    (221, ([.slice none 0 0], false)),
    (223, ([.slice none 0 0], true)),
    (224, ([.slice none 0 0], false)),
    (225, ([.map none], false)),
    (227, ([], true)),
    (228, ([], true)),
    (230, ([.int .i64 0], true)),
    (232, ([.slice none 0 0, .slice none 0 0, .map none, .int .u64 0, .int .u32 0, .int .i64 0, .int .i64 0, .int .i64 0], true)),
    (235, ([.int .u32 0, .slice none 0 0, .slice none 0 0, .int .i64 0, .int .i64 0, .int .i64 0, .bool false, .int .i64 0, .bool false, .int .i64 0, .bool false], true)),
    (236, ([.pointer none], false)),
    (245, ([.slice none 0 0], false)),
    (256, ([.map none], false)),
    (262, ([.slice none 0 0, .bool false], true)),
    (266, ([.slice none 0 0, .bool false], true)),
    (274, ([.pointer none], false)),
    (283, ([.int .u32 0, .int .i32 0, .int .u32 0], true)),
    (285, ([.slice none 0 0, .int .u32 0, .int .i32 0, .int .u32 0, .string ⟨#[]⟩], true)),
    (286, ([.pointer none], false)),
    (288, ([.pointer none], false)),
    (312, ([.int .u16 0], false))]
  ints := [(2, .i64), (3, .i64), (5, .u8), (21, .i32), (22, .u64), (27, .i64), (30, .u64), (31, .u32), (312, .u16)]
  sl := [(23, (41, 14)), (32, (5, 1)), (44, (58, 6)), (45, (54, 3)), (74, (32, 1)), (102, (107, 6)), (109, (215, 15)), (113, (63, 11)), (117, (217, 4)), (184, (203, 3)), (207, (9, 1)), (213, (44, 1)), (218, (120, 10)), (221, (274, 1)), (224, (235, 11)), (245, (31, 1))]
  str := [9]
  ptr := [26, 81, 110, 174, 188, 193, 236, 274, 286, 288]
  boolT := [4]
  flat := [(38, [some .u32, some .i64, some .u64, some .i64]), (49, [some .i64, some .i64, some .i64, none, some .i64, none, some .i64]), (54, [some .i64, some .i64, some .i64]), (104, [some .u32, some .u64]), (107, [some .i64, some .i64, some .i64, some .i64, none, some .i64]), (130, [some .i64, none, some .i64])]
  bys := [32]
  arr := [(105, (3, 2))]
def T : Tab := TL.tab
theorem TL_okB : TL.okB Go.Proofs.Try.prog = true := by kernel_rfl
theorem Z2 : (Go.Proofs.Try.prog.info? 2).map (·.zero) = some (some (.int .i64 0)) := by kernel_rfl
theorem Z3 : (Go.Proofs.Try.prog.info? 3).map (·.zero) = some (some (.int .i64 0)) := by kernel_rfl
theorem Z4 : (Go.Proofs.Try.prog.info? 4).map (·.zero) = some (some (.bool false)) := by kernel_rfl
theorem Z5 : (Go.Proofs.Try.prog.info? 5).map (·.zero) = some (some (.int .u8 0)) := by kernel_rfl
theorem Z9 : (Go.Proofs.Try.prog.info? 9).map (·.zero) = some (some (.string ⟨#[]⟩)) := by kernel_rfl
theorem Z21 : (Go.Proofs.Try.prog.info? 21).map (·.zero) = some (some (.int .i32 0)) := by kernel_rfl
theorem Z22 : (Go.Proofs.Try.prog.info? 22).map (·.zero) = some (some (.int .u64 0)) := by kernel_rfl
theorem Z23 : (Go.Proofs.Try.prog.info? 23).map (·.zero) = some (some (.slice none 0 0)) := by kernel_rfl
theorem Z26 : (Go.Proofs.Try.prog.info? 26).map (·.zero) = some (some (.pointer none)) := by kernel_rfl
theorem Z27 : (Go.Proofs.Try.prog.info? 27).map (·.zero) = some (some (.int .i64 0)) := by kernel_rfl
theorem Z30 : (Go.Proofs.Try.prog.info? 30).map (·.zero) = some (some (.int .u64 0)) := by kernel_rfl
theorem Z31 : (Go.Proofs.Try.prog.info? 31).map (·.zero) = some (some (.int .u32 0)) := by kernel_rfl
theorem Z32 : (Go.Proofs.Try.prog.info? 32).map (·.zero) = some (some (.slice none 0 0)) := by kernel_rfl
theorem Z34 : (Go.Proofs.Try.prog.info? 34).map (·.zero) = some (some (.agg #[.int .i64 0, .int .u32 0, .int .u32 0, .int .u64 0, .int .u64 0, .int .u32 0, .int .i64 0, .bool false, .int .i64 0, .slice none 0 0, .slice none 0 0])) := by kernel_rfl
theorem Z38 : (Go.Proofs.Try.prog.info? 38).map (·.zero) = some (some (.agg #[.int .u32 0, .int .i64 0, .int .u64 0, .int .i64 0])) := by kernel_rfl
theorem Z41 : (Go.Proofs.Try.prog.info? 41).map (·.zero) = some (some (.agg #[.int .i64 0, .int .i64 0, .int .i64 0, .int .i64 0, .int .u32 0, .int .u32 0, .int .u64 0, .int .u64 0, .int .u32 0, .int .i64 0, .bool false, .int .i64 0, .slice none 0 0, .slice none 0 0])) := by kernel_rfl
theorem Z44 : (Go.Proofs.Try.prog.info? 44).map (·.zero) = some (some (.slice none 0 0)) := by kernel_rfl
theorem Z45 : (Go.Proofs.Try.prog.info? 45).map (·.zero) = some (some (.slice none 0 0)) := by kernel_rfl
theorem Z49 : (Go.Proofs.Try.prog.info? 49).map (·.zero) = some (some (.agg #[.int .i64 0, .int .i64 0, .int .i64 0, .bool false, .int .i64 0, .bool false, .int .i64 0])) := by kernel_rfl
theorem Z54 : (Go.Proofs.Try.prog.info? 54).map (·.zero) = some (some (.agg #[.int .i64 0, .int .i64 0, .int .i64 0])) := by kernel_rfl
theorem Z56 : (Go.Proofs.Try.prog.info? 56).map (·.zero) = some (some (.agg #[.int .i64 0, .int .i64 0, .slice none 0 0])) := by kernel_rfl
theorem Z58 : (Go.Proofs.Try.prog.info? 58).map (·.zero) = some (some (.agg #[.int .i64 0, .int .i64 0, .slice none 0 0, .int .i64 0, .int .i64 0, .bool false])) := by kernel_rfl
theorem Z63 : (Go.Proofs.Try.prog.info? 63).map (·.zero) = some (some (.agg #[.int .i64 0, .int .u64 0, .int .u32 0, .int .u32 0, .int .i64 0, .bool false, .int .i64 0, .int .i64 0, .int .u64 0, .slice none 0 0, .slice none 0 0])) := by kernel_rfl
theorem Z64 : (Go.Proofs.Try.prog.info? 64).map (·.zero) = some (some (.nilFunc)) := by kernel_rfl
theorem Z74 : (Go.Proofs.Try.prog.info? 74).map (·.zero) = some (some (.slice none 0 0)) := by kernel_rfl
theorem Z81 : (Go.Proofs.Try.prog.info? 81).map (·.zero) = some (some (.pointer none)) := by kernel_rfl
theorem Z88 : (Go.Proofs.Try.prog.info? 88).map (·.zero) = some (some (.agg #[.int .u64 0, .int .u64 0, .int .u64 0, .int .u32 0, .int .i64 0, .int .u64 0, .int .i64 0])) := by kernel_rfl
theorem Z102 : (Go.Proofs.Try.prog.info? 102).map (·.zero) = some (some (.slice none 0 0)) := by kernel_rfl
theorem Z104 : (Go.Proofs.Try.prog.info? 104).map (·.zero) = some (some (.agg #[.int .u32 0, .int .u64 0])) := by kernel_rfl
theorem Z105 : (Go.Proofs.Try.prog.info? 105).map (·.zero) = some (some (.agg #[.int .u32 0, .int .u64 0, .int .u32 0, .int .u64 0, .int .u32 0, .int .u64 0])) := by kernel_rfl
theorem Z107 : (Go.Proofs.Try.prog.info? 107).map (·.zero) = some (some (.agg #[.int .i64 0, .int .i64 0, .int .i64 0, .int .i64 0, .bool false, .int .i64 0])) := by kernel_rfl
theorem Z109 : (Go.Proofs.Try.prog.info? 109).map (·.zero) = some (some (.slice none 0 0)) := by kernel_rfl
theorem Z110 : (Go.Proofs.Try.prog.info? 110).map (·.zero) = some (some (.pointer none)) := by kernel_rfl
theorem Z113 : (Go.Proofs.Try.prog.info? 113).map (·.zero) = some (some (.slice none 0 0)) := by kernel_rfl
theorem Z117 : (Go.Proofs.Try.prog.info? 117).map (·.zero) = some (some (.slice none 0 0)) := by kernel_rfl
theorem Z120 : (Go.Proofs.Try.prog.info? 120).map (·.zero) = some (some (.agg #[.int .u32 0, .slice none 0 0, .slice none 0 0, .int .i64 0, .int .i64 0, .int .i64 0, .bool false, .int .i64 0, .bool false, .int .i64 0])) := by kernel_rfl
theorem Z130 : (Go.Proofs.Try.prog.info? 130).map (·.zero) = some (some (.agg #[.int .i64 0, .bool false, .int .i64 0])) := by kernel_rfl
theorem Z154 : (Go.Proofs.Try.prog.info? 154).map (·.zero) = some (some (.agg #[.slice none 0 0, .slice none 0 0, .slice none 0 0])) := by kernel_rfl
theorem Z161 : (Go.Proofs.Try.prog.info? 161).map (·.zero) = some (some (.agg #[.int .u64 0, .int .u64 0, .int .u64 0, .int .u32 0, .int .i64 0, .int .u64 0, .int .i64 0, .int .i64 0])) := by kernel_rfl
theorem Z174 : (Go.Proofs.Try.prog.info? 174).map (·.zero) = some (some (.pointer none)) := by kernel_rfl
theorem Z184 : (Go.Proofs.Try.prog.info? 184).map (·.zero) = some (some (.slice none 0 0)) := by kernel_rfl
theorem Z188 : (Go.Proofs.Try.prog.info? 188).map (·.zero) = some (some (.pointer none)) := by kernel_rfl
theorem Z193 : (Go.Proofs.Try.prog.info? 193).map (·.zero) = some (some (.pointer none)) := by kernel_rfl
theorem Z195 : (Go.Proofs.Try.prog.info? 195).map (·.zero) = some (some (.agg #[.slice none 0 0, .int .i64 0, .bool false])) := by kernel_rfl
theorem Z203 : (Go.Proofs.Try.prog.info? 203).map (·.zero) = some (some (.agg #[.int .i64 0, .int .u64 0, .slice none 0 0])) := by kernel_rfl
theorem Z207 : (Go.Proofs.Try.prog.info? 207).map (·.zero) = some (some (.slice none 0 0)) := by kernel_rfl
theorem Z213 : (Go.Proofs.Try.prog.info? 213).map (·.zero) = some (some (.slice none 0 0)) := by kernel_rfl
theorem Z215 : (Go.Proofs.Try.prog.info? 215).map (·.zero) = some (some (.agg #[.int .i64 0, .int .i64 0, .int .u64 0, .int .u32 0, .int .u32 0, .int .i64 0, .bool false, .int .i64 0, .int .i64 0, .int .u64 0, .slice none 0 0, .slice none 0 0, .bool false, .int .i64 0, .int .i64 0])) := by kernel_rfl
theorem Z217 : (Go.Proofs.Try.prog.info? 217).map (·.zero) = some (some (.agg #[.int .u32 0, .int .i64 0, .bool false, .int .i64 0])) := by kernel_rfl
theorem Z218 : (Go.Proofs.Try.prog.info? 218).map (·.zero) = some (some (.slice none 0 0)) := by kernel_rfl
theorem Z221 : (Go.Proofs.Try.prog.info? 221).map (·.zero) = some (some (.slice none 0 0)) := by kernel_rfl
theorem Z223 : (Go.Proofs.Try.prog.info? 223).map (·.zero) = some (some (.agg #[.slice none 0 0])) := by kernel_rfl
theorem Z224 : (Go.Proofs.Try.prog.info? 224).map (·.zero) = some (some (.slice none 0 0)) := by kernel_rfl
theorem Z225 : (Go.Proofs.Try.prog.info? 225).map (·.zero) = some (some (.map none)) := by kernel_rfl
theorem Z227 : (Go.Proofs.Try.prog.info? 227).map (·.zero) = some (some (.agg #[])) := by kernel_rfl
theorem Z228 : (Go.Proofs.Try.prog.info? 228).map (·.zero) = some (some (.agg #[])) := by kernel_rfl
theorem Z230 : (Go.Proofs.Try.prog.info? 230).map (·.zero) = some (some (.agg #[.int .i64 0])) := by kernel_rfl
theorem Z232 : (Go.Proofs.Try.prog.info? 232).map (·.zero) = some (some (.agg #[.slice none 0 0, .slice none 0 0, .map none, .int .u64 0, .int .u32 0, .int .i64 0, .int .i64 0, .int .i64 0])) := by kernel_rfl
theorem Z235 : (Go.Proofs.Try.prog.info? 235).map (·.zero) = some (some (.agg #[.int .u32 0, .slice none 0 0, .slice none 0 0, .int .i64 0, .int .i64 0, .int .i64 0, .bool false, .int .i64 0, .bool false, .int .i64 0, .bool false])) := by kernel_rfl
theorem Z236 : (Go.Proofs.Try.prog.info? 236).map (·.zero) = some (some (.pointer none)) := by kernel_rfl
theorem Z245 : (Go.Proofs.Try.prog.info? 245).map (·.zero) = some (some (.slice none 0 0)) := by kernel_rfl
theorem Z256 : (Go.Proofs.Try.prog.info? 256).map (·.zero) = some (some (.map none)) := by kernel_rfl
theorem Z262 : (Go.Proofs.Try.prog.info? 262).map (·.zero) = some (some (.agg #[.slice none 0 0, .bool false])) := by kernel_rfl
theorem Z266 : (Go.Proofs.Try.prog.info? 266).map (·.zero) = some (some (.agg #[.slice none 0 0, .bool false])) := by kernel_rfl
theorem Z274 : (Go.Proofs.Try.prog.info? 274).map (·.zero) = some (some (.pointer none)) := by kernel_rfl
theorem Z283 : (Go.Proofs.Try.prog.info? 283).map (·.zero) = some (some (.agg #[.int .u32 0, .int .i32 0, .int .u32 0])) := by kernel_rfl
theorem Z285 : (Go.Proofs.Try.prog.info? 285).map (·.zero) = some (some (.agg #[.slice none 0 0, .int .u32 0, .int .i32 0, .int .u32 0, .string ⟨#[]⟩])) := by kernel_rfl
theorem Z286 : (Go.Proofs.Try.prog.info? 286).map (·.zero) = some (some (.pointer none)) := by kernel_rfl
theorem Z288 : (Go.Proofs.Try.prog.info? 288).map (·.zero) = some (some (.pointer none)) := by kernel_rfl
theorem Z312 : (Go.Proofs.Try.prog.info? 312).map (·.zero) = some (some (.int .u16 0)) := by kernel_rfl
theorem TL_zero : ∀ x ∈ TL.zero, zeroE Go.Proofs.Try.prog x := by
  unfold TL
  refine List.forall_mem_cons.2 ⟨⟨Z2, fun _ => ⟨_, rfl, rfl⟩⟩, ?_⟩
  refine List.forall_mem_cons.2 ⟨⟨Z3, fun _ => ⟨_, rfl, rfl⟩⟩, ?_⟩
  refine List.forall_mem_cons.2 ⟨⟨Z4, fun _ => ⟨_, rfl, rfl⟩⟩, ?_⟩
  refine List.forall_mem_cons.2 ⟨⟨Z5, fun _ => ⟨_, rfl, rfl⟩⟩, ?_⟩
  refine List.forall_mem_cons.2 ⟨⟨Z9, fun _ => ⟨_, rfl, rfl⟩⟩, ?_⟩
  refine List.forall_mem_cons.2 ⟨⟨Z21, fun _ => ⟨_, rfl, rfl⟩⟩, ?_⟩
  refine List.forall_mem_cons.2 ⟨⟨Z22, fun _ => ⟨_, rfl, rfl⟩⟩, ?_⟩
  refine List.forall_mem_cons.2 ⟨⟨Z23, fun _ => ⟨_, rfl, rfl⟩⟩, ?_⟩
  refine List.forall_mem_cons.2 ⟨⟨Z26, fun _ => ⟨_, rfl, rfl⟩⟩, ?_⟩
  refine List.forall_mem_cons.2 ⟨⟨Z27, fun _ => ⟨_, rfl, rfl⟩⟩, ?_⟩
  refine List.forall_mem_cons.2 ⟨⟨Z30, fun _ => ⟨_, rfl, rfl⟩⟩, ?_⟩
  refine List.forall_mem_cons.2 ⟨⟨Z31, fun _ => ⟨_, rfl, rfl⟩⟩, ?_⟩
  refine List.forall_mem_cons.2 ⟨⟨Z32, fun _ => ⟨_, rfl, rfl⟩⟩, ?_⟩
  refine List.forall_mem_cons.2 ⟨⟨Z34, fun h => (by cases h)⟩, ?_⟩
  refine List.forall_mem_cons.2 ⟨⟨Z38, fun h => (by cases h)⟩, ?_⟩
  refine List.forall_mem_cons.2 ⟨⟨Z41, fun h => (by cases h)⟩, ?_⟩
  refine List.forall_mem_cons.2 ⟨⟨Z44, fun _ => ⟨_, rfl, rfl⟩⟩, ?_⟩
  refine List.forall_mem_cons.2 ⟨⟨Z45, fun _ => ⟨_, rfl, rfl⟩⟩, ?_⟩
  refine List.forall_mem_cons.2 ⟨⟨Z49, fun h => (by cases h)⟩, ?_⟩
  refine List.forall_mem_cons.2 ⟨⟨Z54, fun h => (by cases h)⟩, ?_⟩
  refine List.forall_mem_cons.2 ⟨⟨Z56, fun h => (by cases h)⟩, ?_⟩
  refine List.forall_mem_cons.2 ⟨⟨Z58, fun h => (by cases h)⟩, ?_⟩
  refine List.forall_mem_cons.2 ⟨⟨Z63, fun h => (by cases h)⟩, ?_⟩
  refine List.forall_mem_cons.2 ⟨⟨Z64, fun _ => ⟨_, rfl, rfl⟩⟩, ?_⟩
  refine List.forall_mem_cons.2 ⟨⟨Z74, fun _ => ⟨_, rfl, rfl⟩⟩, ?_⟩
  refine List.forall_mem_cons.2 ⟨⟨Z81, fun _ => ⟨_, rfl, rfl⟩⟩, ?_⟩
  refine List.forall_mem_cons.2 ⟨⟨Z88, fun h => (by cases h)⟩, ?_⟩
  refine List.forall_mem_cons.2 ⟨⟨Z102, fun _ => ⟨_, rfl, rfl⟩⟩, ?_⟩
  refine List.forall_mem_cons.2 ⟨⟨Z104, fun h => (by cases h)⟩, ?_⟩
  refine List.forall_mem_cons.2 ⟨⟨Z105, fun h => (by cases h)⟩, ?_⟩
  refine List.forall_mem_cons.2 ⟨⟨Z107, fun h => (by cases h)⟩, ?_⟩
  refine List.forall_mem_cons.2 ⟨⟨Z109, fun _ => ⟨_, rfl, rfl⟩⟩, ?_⟩
  refine List.forall_mem_cons.2 ⟨⟨Z110, fun _ => ⟨_, rfl, rfl⟩⟩, ?_⟩
  refine List.forall_mem_cons.2 ⟨⟨Z113, fun _ => ⟨_, rfl, rfl⟩⟩, ?_⟩
  refine List.forall_mem_cons.2 ⟨⟨Z117, fun _ => ⟨_, rfl, rfl⟩⟩, ?_⟩
  refine List.forall_mem_cons.2 ⟨⟨Z120, fun h => (by cases h)⟩, ?_⟩
  refine List.forall_mem_cons.2 ⟨⟨Z130, fun h => (by cases h)⟩, ?_⟩
  refine List.forall_mem_cons.2 ⟨⟨Z154, fun h => (by cases h)⟩, ?_⟩
  refine List.forall_mem_cons.2 ⟨⟨Z161, fun h => (by cases h)⟩, ?_⟩
  refine List.forall_mem_cons.2 ⟨⟨Z174, fun _ => ⟨_, rfl, rfl⟩⟩, ?_⟩
  refine List.forall_mem_cons.2 ⟨⟨Z184, fun _ => ⟨_, rfl, rfl⟩⟩, ?_⟩
  refine List.forall_mem_cons.2 ⟨⟨Z188, fun _ => ⟨_, rfl, rfl⟩⟩, ?_⟩
  refine List.forall_mem_cons.2 ⟨⟨Z193, fun _ => ⟨_, rfl, rfl⟩⟩, ?_⟩
  refine List.forall_mem_cons.2 ⟨⟨Z195, fun h => (by cases h)⟩, ?_⟩
  refine List.forall_mem_cons.2 ⟨⟨Z203, fun h => (by cases h)⟩, ?_⟩
  refine List.forall_mem_cons.2 ⟨⟨Z207, fun _ => ⟨_, rfl, rfl⟩⟩, ?_⟩
  refine List.forall_mem_cons.2 ⟨⟨Z213, fun _ => ⟨_, rfl, rfl⟩⟩, ?_⟩
  refine List.forall_mem_cons.2 ⟨⟨Z215, fun h => (by cases h)⟩, ?_⟩
  refine List.forall_mem_cons.2 ⟨⟨Z217, fun h => (by cases h)⟩, ?_⟩
  refine List.forall_mem_cons.2 ⟨⟨Z218, fun _ => ⟨_, rfl, rfl⟩⟩, ?_⟩
  refine List.forall_mem_cons.2 ⟨⟨Z221, fun _ => ⟨_, rfl, rfl⟩⟩, ?_⟩
  refine List.forall_mem_cons.2 ⟨⟨Z223, fun h => (by cases h)⟩, ?_⟩
  refine List.forall_mem_cons.2 ⟨⟨Z224, fun _ => ⟨_, rfl, rfl⟩⟩, ?_⟩
  refine List.forall_mem_cons.2 ⟨⟨Z225, fun _ => ⟨_, rfl, rfl⟩⟩, ?_⟩
  refine List.forall_mem_cons.2 ⟨⟨Z227, fun h => (by cases h)⟩, ?_⟩
  refine List.forall_mem_cons.2 ⟨⟨Z228, fun h => (by cases h)⟩, ?_⟩
  refine List.forall_mem_cons.2 ⟨⟨Z230, fun h => (by cases h)⟩, ?_⟩
  refine List.forall_mem_cons.2 ⟨⟨Z232, fun h => (by cases h)⟩, ?_⟩
  refine List.forall_mem_cons.2 ⟨⟨Z235, fun h => (by cases h)⟩, ?_⟩
  refine List.forall_mem_cons.2 ⟨⟨Z236, fun _ => ⟨_, rfl, rfl⟩⟩, ?_⟩
  refine List.forall_mem_cons.2 ⟨⟨Z245, fun _ => ⟨_, rfl, rfl⟩⟩, ?_⟩
  refine List.forall_mem_cons.2 ⟨⟨Z256, fun _ => ⟨_, rfl, rfl⟩⟩, ?_⟩
  refine List.forall_mem_cons.2 ⟨⟨Z262, fun h => (by cases h)⟩, ?_⟩
  refine List.forall_mem_cons.2 ⟨⟨Z266, fun h => (by cases h)⟩, ?_⟩
  refine List.forall_mem_cons.2 ⟨⟨Z274, fun _ => ⟨_, rfl, rfl⟩⟩, ?_⟩
  refine List.forall_mem_cons.2 ⟨⟨Z283, fun h => (by cases h)⟩, ?_⟩
  refine List.forall_mem_cons.2 ⟨⟨Z285, fun h => (by cases h)⟩, ?_⟩
  refine List.forall_mem_cons.2 ⟨⟨Z286, fun _ => ⟨_, rfl, rfl⟩⟩, ?_⟩
  refine List.forall_mem_cons.2 ⟨⟨Z288, fun _ => ⟨_, rfl, rfl⟩⟩, ?_⟩
  refine List.forall_mem_cons.2 ⟨⟨Z312, fun _ => ⟨_, rfl, rfl⟩⟩, ?_⟩
  exact fun x hx => by cases hx
theorem T_ok : T.Ok Go.Proofs.Try.prog := TabL.ok TL_okB TL_zero
theorem F34_0 : T.fld 34 0 = some 0 := rfl
theorem P34_0 : T.part 34 0 = some (0, none) := rfl
theorem F34_1 : T.fld 34 1 = some 1 := rfl
theorem P34_1 : T.part 34 1 = some (1, none) := rfl
theorem F34_2 : T.fld 34 2 = some 2 := rfl
theorem P34_2 : T.part 34 2 = some (2, none) := rfl
theorem F34_3 : T.fld 34 3 = some 3 := rfl
theorem P34_3 : T.part 34 3 = some (3, none) := rfl
theorem F34_4 : T.fld 34 4 = some 4 := rfl
theorem P34_4 : T.part 34 4 = some (4, none) := rfl
theorem F34_5 : T.fld 34 5 = some 5 := rfl
theorem P34_5 : T.part 34 5 = some (5, none) := rfl
theorem F34_6 : T.fld 34 6 = some 6 := rfl
theorem P34_6 : T.part 34 6 = some (6, none) := rfl
theorem F34_7 : T.fld 34 7 = some 7 := rfl
theorem P34_7 : T.part 34 7 = some (7, none) := rfl
theorem F34_8 : T.fld 34 8 = some 8 := rfl
theorem P34_8 : T.part 34 8 = some (8, none) := rfl
theorem F34_9 : T.fld 34 9 = some 9 := rfl
theorem P34_9 : T.part 34 9 = some (9, none) := rfl
theorem F34_10 : T.fld 34 10 = some 10 := rfl
theorem P34_10 : T.part 34 10 = some (10, none) := rfl
theorem B34 : T.bld 34 = some [(0, 1), (1, 1), (2, 1), (3, 1), (4, 1), (5, 1), (6, 1), (7, 1), (8, 1), (9, 1), (10, 1)] := rfl
theorem F38_0 : T.fld 38 0 = some 0 := rfl
theorem P38_0 : T.part 38 0 = some (0, none) := rfl
theorem F38_1 : T.fld 38 1 = some 1 := rfl
theorem P38_1 : T.part 38 1 = some (1, none) := rfl
theorem F38_2 : T.fld 38 2 = some 2 := rfl
theorem P38_2 : T.part 38 2 = some (2, none) := rfl
theorem F38_3 : T.fld 38 3 = some 3 := rfl
theorem P38_3 : T.part 38 3 = some (3, none) := rfl
theorem B38 : T.bld 38 = some [(0, 1), (1, 1), (2, 1), (3, 1)] := rfl
theorem F41_0 : T.fld 41 0 = some 0 := rfl
theorem P41_0 : T.part 41 0 = some (0, none) := rfl
theorem F41_1 : T.fld 41 1 = some 1 := rfl
theorem P41_1 : T.part 41 1 = some (1, none) := rfl
theorem F41_2 : T.fld 41 2 = some 2 := rfl
theorem P41_2 : T.part 41 2 = some (2, none) := rfl
theorem F41_3 : T.fld 41 3 = some 3 := rfl
theorem P41_3 : T.part 41 3 = some (3, some 11) := rfl
theorem B41 : T.bld 41 = some [(0, 1), (1, 1), (2, 1), (3, 11)] := rfl
theorem F49_0 : T.fld 49 0 = some 0 := rfl
theorem P49_0 : T.part 49 0 = some (0, none) := rfl
theorem F49_1 : T.fld 49 1 = some 1 := rfl
theorem P49_1 : T.part 49 1 = some (1, none) := rfl
theorem F49_2 : T.fld 49 2 = some 2 := rfl
theorem P49_2 : T.part 49 2 = some (2, none) := rfl
theorem F49_3 : T.fld 49 3 = some 3 := rfl
theorem P49_3 : T.part 49 3 = some (3, none) := rfl
theorem F49_4 : T.fld 49 4 = some 4 := rfl
theorem P49_4 : T.part 49 4 = some (4, none) := rfl
theorem F49_5 : T.fld 49 5 = some 5 := rfl
theorem P49_5 : T.part 49 5 = some (5, none) := rfl
theorem F49_6 : T.fld 49 6 = some 6 := rfl
theorem P49_6 : T.part 49 6 = some (6, none) := rfl
theorem B49 : T.bld 49 = some [(0, 1), (1, 1), (2, 1), (3, 1), (4, 1), (5, 1), (6, 1)] := rfl
theorem F54_0 : T.fld 54 0 = some 0 := rfl
theorem P54_0 : T.part 54 0 = some (0, none) := rfl
theorem F54_1 : T.fld 54 1 = some 1 := rfl
theorem P54_1 : T.part 54 1 = some (1, none) := rfl
theorem F54_2 : T.fld 54 2 = some 2 := rfl
theorem P54_2 : T.part 54 2 = some (2, none) := rfl
theorem B54 : T.bld 54 = some [(0, 1), (1, 1), (2, 1)] := rfl
theorem F56_0 : T.fld 56 0 = some 0 := rfl
theorem P56_0 : T.part 56 0 = some (0, none) := rfl
theorem F56_1 : T.fld 56 1 = some 1 := rfl
theorem P56_1 : T.part 56 1 = some (1, none) := rfl
theorem F56_2 : T.fld 56 2 = some 2 := rfl
theorem P56_2 : T.part 56 2 = some (2, none) := rfl
theorem B56 : T.bld 56 = some [(0, 1), (1, 1), (2, 1)] := rfl
theorem F58_0 : T.fld 58 0 = some 0 := rfl
theorem P58_0 : T.part 58 0 = some (0, some 3) := rfl
theorem F58_1 : T.fld 58 1 = some 3 := rfl
theorem P58_1 : T.part 58 1 = some (3, none) := rfl
theorem F58_2 : T.fld 58 2 = some 4 := rfl
theorem P58_2 : T.part 58 2 = some (4, none) := rfl
theorem F58_3 : T.fld 58 3 = some 5 := rfl
theorem P58_3 : T.part 58 3 = some (5, none) := rfl
theorem B58 : T.bld 58 = some [(0, 3), (3, 1), (4, 1), (5, 1)] := rfl
theorem F63_0 : T.fld 63 0 = some 0 := rfl
theorem P63_0 : T.part 63 0 = some (0, none) := rfl
theorem F63_1 : T.fld 63 1 = some 1 := rfl
theorem P63_1 : T.part 63 1 = some (1, none) := rfl
theorem F63_2 : T.fld 63 2 = some 2 := rfl
theorem P63_2 : T.part 63 2 = some (2, none) := rfl
theorem F63_3 : T.fld 63 3 = some 3 := rfl
theorem P63_3 : T.part 63 3 = some (3, none) := rfl
theorem F63_4 : T.fld 63 4 = some 4 := rfl
theorem P63_4 : T.part 63 4 = some (4, none) := rfl
theorem F63_5 : T.fld 63 5 = some 5 := rfl
theorem P63_5 : T.part 63 5 = some (5, none) := rfl
theorem F63_6 : T.fld 63 6 = some 6 := rfl
theorem P63_6 : T.part 63 6 = some (6, none) := rfl
theorem F63_7 : T.fld 63 7 = some 7 := rfl
theorem P63_7 : T.part 63 7 = some (7, none) := rfl
theorem F63_8 : T.fld 63 8 = some 8 := rfl
theorem P63_8 : T.part 63 8 = some (8, none) := rfl
theorem F63_9 : T.fld 63 9 = some 9 := rfl
theorem P63_9 : T.part 63 9 = some (9, none) := rfl
theorem F63_10 : T.fld 63 10 = some 10 := rfl
theorem P63_10 : T.part 63 10 = some (10, none) := rfl
theorem B63 : T.bld 63 = some [(0, 1), (1, 1), (2, 1), (3, 1), (4, 1), (5, 1), (6, 1), (7, 1), (8, 1), (9, 1), (10, 1)] := rfl
theorem F88_0 : T.fld 88 0 = some 0 := rfl
theorem P88_0 : T.part 88 0 = some (0, none) := rfl
theorem F88_1 : T.fld 88 1 = some 1 := rfl
theorem P88_1 : T.part 88 1 = some (1, none) := rfl
theorem F88_2 : T.fld 88 2 = some 2 := rfl
theorem P88_2 : T.part 88 2 = some (2, none) := rfl
theorem F88_3 : T.fld 88 3 = some 3 := rfl
theorem P88_3 : T.part 88 3 = some (3, some 4) := rfl
theorem B88 : T.bld 88 = some [(0, 1), (1, 1), (2, 1), (3, 4)] := rfl
theorem F104_0 : T.fld 104 0 = some 0 := rfl
theorem P104_0 : T.part 104 0 = some (0, none) := rfl
theorem F104_1 : T.fld 104 1 = some 1 := rfl
theorem P104_1 : T.part 104 1 = some (1, none) := rfl
theorem B104 : T.bld 104 = some [(0, 1), (1, 1)] := rfl
theorem F107_0 : T.fld 107 0 = some 0 := rfl
theorem P107_0 : T.part 107 0 = some (0, none) := rfl
theorem F107_1 : T.fld 107 1 = some 1 := rfl
theorem P107_1 : T.part 107 1 = some (1, none) := rfl
theorem F107_2 : T.fld 107 2 = some 2 := rfl
theorem P107_2 : T.part 107 2 = some (2, none) := rfl
theorem F107_3 : T.fld 107 3 = some 3 := rfl
theorem P107_3 : T.part 107 3 = some (3, none) := rfl
theorem F107_4 : T.fld 107 4 = some 4 := rfl
theorem P107_4 : T.part 107 4 = some (4, none) := rfl
theorem F107_5 : T.fld 107 5 = some 5 := rfl
theorem P107_5 : T.part 107 5 = some (5, none) := rfl
theorem B107 : T.bld 107 = some [(0, 1), (1, 1), (2, 1), (3, 1), (4, 1), (5, 1)] := rfl
theorem F120_0 : T.fld 120 0 = some 0 := rfl
theorem P120_0 : T.part 120 0 = some (0, none) := rfl
theorem F120_1 : T.fld 120 1 = some 1 := rfl
theorem P120_1 : T.part 120 1 = some (1, none) := rfl
theorem F120_2 : T.fld 120 2 = some 2 := rfl
theorem P120_2 : T.part 120 2 = some (2, none) := rfl
theorem F120_3 : T.fld 120 3 = some 3 := rfl
theorem P120_3 : T.part 120 3 = some (3, some 7) := rfl
theorem B120 : T.bld 120 = some [(0, 1), (1, 1), (2, 1), (3, 7)] := rfl
theorem F130_0 : T.fld 130 0 = some 0 := rfl
theorem P130_0 : T.part 130 0 = some (0, none) := rfl
theorem F130_1 : T.fld 130 1 = some 1 := rfl
theorem P130_1 : T.part 130 1 = some (1, none) := rfl
theorem F130_2 : T.fld 130 2 = some 2 := rfl
theorem P130_2 : T.part 130 2 = some (2, none) := rfl
theorem B130 : T.bld 130 = some [(0, 1), (1, 1), (2, 1)] := rfl
theorem F154_0 : T.fld 154 0 = some 0 := rfl
theorem P154_0 : T.part 154 0 = some (0, none) := rfl
theorem F154_1 : T.fld 154 1 = some 1 := rfl
theorem P154_1 : T.part 154 1 = some (1, none) := rfl
theorem F154_2 : T.fld 154 2 = some 2 := rfl
theorem P154_2 : T.part 154 2 = some (2, none) := rfl
theorem B154 : T.bld 154 = some [(0, 1), (1, 1), (2, 1)] := rfl
theorem F161_0 : T.fld 161 0 = some 0 := rfl
theorem P161_0 : T.part 161 0 = some (0, none) := rfl
theorem F161_1 : T.fld 161 1 = some 1 := rfl
theorem P161_1 : T.part 161 1 = some (1, none) := rfl
theorem F161_2 : T.fld 161 2 = some 2 := rfl
theorem P161_2 : T.part 161 2 = some (2, none) := rfl
theorem F161_3 : T.fld 161 3 = some 3 := rfl
theorem P161_3 : T.part 161 3 = some (3, some 4) := rfl
theorem F161_4 : T.fld 161 4 = some 7 := rfl
theorem P161_4 : T.part 161 4 = some (7, none) := rfl
theorem B161 : T.bld 161 = some [(0, 1), (1, 1), (2, 1), (3, 4), (7, 1)] := rfl
theorem F195_0 : T.fld 195 0 = some 0 := rfl
theorem P195_0 : T.part 195 0 = some (0, none) := rfl
theorem F195_1 : T.fld 195 1 = some 1 := rfl
theorem P195_1 : T.part 195 1 = some (1, none) := rfl
theorem F195_2 : T.fld 195 2 = some 2 := rfl
theorem P195_2 : T.part 195 2 = some (2, none) := rfl
theorem B195 : T.bld 195 = some [(0, 1), (1, 1), (2, 1)] := rfl
theorem F203_0 : T.fld 203 0 = some 0 := rfl
theorem P203_0 : T.part 203 0 = some (0, none) := rfl
theorem F203_1 : T.fld 203 1 = some 1 := rfl
theorem P203_1 : T.part 203 1 = some (1, none) := rfl
theorem F203_2 : T.fld 203 2 = some 2 := rfl
theorem P203_2 : T.part 203 2 = some (2, none) := rfl
theorem B203 : T.bld 203 = some [(0, 1), (1, 1), (2, 1)] := rfl
theorem F215_0 : T.fld 215 0 = some 0 := rfl
theorem P215_0 : T.part 215 0 = some (0, none) := rfl
theorem F215_1 : T.fld 215 1 = some 1 := rfl
theorem P215_1 : T.part 215 1 = some (1, some 11) := rfl
theorem F215_2 : T.fld 215 2 = some 12 := rfl
theorem P215_2 : T.part 215 2 = some (12, none) := rfl
theorem F215_3 : T.fld 215 3 = some 13 := rfl
theorem P215_3 : T.part 215 3 = some (13, none) := rfl
theorem F215_4 : T.fld 215 4 = some 14 := rfl
theorem P215_4 : T.part 215 4 = some (14, none) := rfl
theorem B215 : T.bld 215 = some [(0, 1), (1, 11), (12, 1), (13, 1), (14, 1)] := rfl
theorem F217_0 : T.fld 217 0 = some 0 := rfl
theorem P217_0 : T.part 217 0 = some (0, none) := rfl
theorem F217_1 : T.fld 217 1 = some 1 := rfl
theorem P217_1 : T.part 217 1 = some (1, some 3) := rfl
theorem B217 : T.bld 217 = some [(0, 1), (1, 3)] := rfl
theorem F223_0 : T.fld 223 0 = some 0 := rfl
theorem P223_0 : T.part 223 0 = some (0, none) := rfl
theorem B223 : T.bld 223 = some [(0, 1)] := rfl
theorem B227 : T.bld 227 = some [] := rfl
theorem B228 : T.bld 228 = some [] := rfl
theorem P230_0 : T.part 230 0 = some (0, some 0) := rfl
theorem P230_1 : T.part 230 1 = some (0, some 0) := rfl
theorem F230_2 : T.fld 230 2 = some 0 := rfl
theorem P230_2 : T.part 230 2 = some (0, none) := rfl
theorem B230 : T.bld 230 = some [(0, 0), (0, 0), (0, 1)] := rfl
theorem F232_0 : T.fld 232 0 = some 0 := rfl
theorem P232_0 : T.part 232 0 = some (0, some 1) := rfl
theorem F232_1 : T.fld 232 1 = some 1 := rfl
theorem P232_1 : T.part 232 1 = some (1, none) := rfl
theorem F232_2 : T.fld 232 2 = some 2 := rfl
theorem P232_2 : T.part 232 2 = some (2, none) := rfl
theorem F232_3 : T.fld 232 3 = some 3 := rfl
theorem P232_3 : T.part 232 3 = some (3, none) := rfl
theorem F232_4 : T.fld 232 4 = some 4 := rfl
theorem P232_4 : T.part 232 4 = some (4, none) := rfl
theorem F232_5 : T.fld 232 5 = some 5 := rfl
theorem P232_5 : T.part 232 5 = some (5, none) := rfl
theorem F232_6 : T.fld 232 6 = some 6 := rfl
theorem P232_6 : T.part 232 6 = some (6, some 1) := rfl
theorem F232_7 : T.fld 232 7 = some 7 := rfl
theorem P232_7 : T.part 232 7 = some (7, some 1) := rfl
theorem B232 : T.bld 232 = some [(0, 1), (1, 1), (2, 1), (3, 1), (4, 1), (5, 1), (6, 1), (7, 1)] := rfl
theorem F235_0 : T.fld 235 0 = some 0 := rfl
theorem P235_0 : T.part 235 0 = some (0, some 10) := rfl
theorem F235_1 : T.fld 235 1 = some 10 := rfl
theorem P235_1 : T.part 235 1 = some (10, none) := rfl
theorem B235 : T.bld 235 = some [(0, 10), (10, 1)] := rfl
theorem F262_0 : T.fld 262 0 = some 0 := rfl
theorem P262_0 : T.part 262 0 = some (0, none) := rfl
theorem F262_1 : T.fld 262 1 = some 1 := rfl
theorem P262_1 : T.part 262 1 = some (1, none) := rfl
theorem B262 : T.bld 262 = some [(0, 1), (1, 1)] := rfl
theorem F266_0 : T.fld 266 0 = some 0 := rfl
theorem P266_0 : T.part 266 0 = some (0, none) := rfl
theorem F266_1 : T.fld 266 1 = some 1 := rfl
theorem P266_1 : T.part 266 1 = some (1, none) := rfl
theorem B266 : T.bld 266 = some [(0, 1), (1, 1)] := rfl
theorem P283_0 : T.part 283 0 = some (0, some 0) := rfl
theorem F283_1 : T.fld 283 1 = some 0 := rfl
theorem P283_1 : T.part 283 1 = some (0, some 1) := rfl
theorem F283_2 : T.fld 283 2 = some 1 := rfl
theorem P283_2 : T.part 283 2 = some (1, some 2) := rfl
theorem B283 : T.bld 283 = some [(0, 0), (0, 1), (1, 2)] := rfl
theorem F285_0 : T.fld 285 0 = some 0 := rfl
theorem P285_0 : T.part 285 0 = some (0, none) := rfl
theorem F285_1 : T.fld 285 1 = some 1 := rfl
theorem P285_1 : T.part 285 1 = some (1, some 3) := rfl
theorem F285_2 : T.fld 285 2 = some 4 := rfl
theorem P285_2 : T.part 285 2 = some (4, none) := rfl
theorem B285 : T.bld 285 = some [(0, 1), (1, 3), (4, 1)] := rfl
theorem S2 : T.sz 2 = some none := rfl
theorem S3 : T.sz 3 = some none := rfl
theorem S4 : T.sz 4 = some none := rfl
theorem S5 : T.sz 5 = some none := rfl
theorem S9 : T.sz 9 = some none := rfl
theorem S21 : T.sz 21 = some none := rfl
theorem S22 : T.sz 22 = some none := rfl
theorem S23 : T.sz 23 = some none := rfl
theorem S26 : T.sz 26 = some none := rfl
theorem S27 : T.sz 27 = some none := rfl
theorem S30 : T.sz 30 = some none := rfl
theorem S31 : T.sz 31 = some none := rfl
theorem S32 : T.sz 32 = some none := rfl
theorem S44 : T.sz 44 = some none := rfl
theorem S45 : T.sz 45 = some none := rfl
theorem S64 : T.sz 64 = some none := rfl
theorem S74 : T.sz 74 = some none := rfl
theorem S81 : T.sz 81 = some none := rfl
theorem S102 : T.sz 102 = some none := rfl
theorem S109 : T.sz 109 = some none := rfl
theorem S110 : T.sz 110 = some none := rfl
theorem S113 : T.sz 113 = some none := rfl
theorem S117 : T.sz 117 = some none := rfl
theorem S174 : T.sz 174 = some none := rfl
theorem S184 : T.sz 184 = some none := rfl
theorem S188 : T.sz 188 = some none := rfl
theorem S193 : T.sz 193 = some none := rfl
theorem S207 : T.sz 207 = some none := rfl
theorem S213 : T.sz 213 = some none := rfl
theorem S218 : T.sz 218 = some none := rfl
theorem S221 : T.sz 221 = some none := rfl
theorem S224 : T.sz 224 = some none := rfl
theorem S225 : T.sz 225 = some none := rfl
theorem S236 : T.sz 236 = some none := rfl
theorem S245 : T.sz 245 = some none := rfl
theorem S256 : T.sz 256 = some none := rfl
theorem S274 : T.sz 274 = some none := rfl
theorem S286 : T.sz 286 = some none := rfl
theorem S288 : T.sz 288 = some none := rfl
theorem S312 : T.sz 312 = some none := rfl
theorem S34 : T.sz 34 = some (some 11) := rfl
theorem S38 : T.sz 38 = some (some 4) := rfl
theorem S41 : T.sz 41 = some (some 14) := rfl
theorem S49 : T.sz 49 = some (some 7) := rfl
theorem S54 : T.sz 54 = some (some 3) := rfl
theorem S56 : T.sz 56 = some (some 3) := rfl
theorem S58 : T.sz 58 = some (some 6) := rfl
theorem S63 : T.sz 63 = some (some 11) := rfl
theorem S88 : T.sz 88 = some (some 7) := rfl
theorem S104 : T.sz 104 = some (some 2) := rfl
theorem S105 : T.sz 105 = some (some 6) := rfl
theorem S107 : T.sz 107 = some (some 6) := rfl
theorem S120 : T.sz 120 = some (some 10) := rfl
theorem S130 : T.sz 130 = some (some 3) := rfl
theorem S154 : T.sz 154 = some (some 3) := rfl
theorem S161 : T.sz 161 = some (some 8) := rfl
theorem S195 : T.sz 195 = some (some 3) := rfl
theorem S203 : T.sz 203 = some (some 3) := rfl
theorem S215 : T.sz 215 = some (some 15) := rfl
theorem S217 : T.sz 217 = some (some 4) := rfl
theorem S223 : T.sz 223 = some (some 1) := rfl
theorem S227 : T.sz 227 = some (some 0) := rfl
theorem S228 : T.sz 228 = some (some 0) := rfl
theorem S230 : T.sz 230 = some (some 1) := rfl
theorem S232 : T.sz 232 = some (some 8) := rfl
theorem S235 : T.sz 235 = some (some 11) := rfl
theorem S262 : T.sz 262 = some (some 2) := rfl
theorem S266 : T.sz 266 = some (some 2) := rfl
theorem S283 : T.sz 283 = some (some 3) := rfl
theorem S285 : T.sz 285 = some (some 5) := rfl
theorem O2 : T.zero 2 = some ([.int .i64 0], false) := rfl
theorem O3 : T.zero 3 = some ([.int .i64 0], false) := rfl
theorem O4 : T.zero 4 = some ([.bool false], false) := rfl
theorem O5 : T.zero 5 = some ([.int .u8 0], false) := rfl
theorem O9 : T.zero 9 = some ([.string ⟨#[]⟩], false) := rfl
theorem O21 : T.zero 21 = some ([.int .i32 0], false) := rfl
theorem O22 : T.zero 22 = some ([.int .u64 0], false) := rfl
theorem O23 : T.zero 23 = some ([.slice none 0 0], false) := rfl
theorem O26 : T.zero 26 = some ([.pointer none], false) := rfl
theorem O27 : T.zero 27 = some ([.int .i64 0], false) := rfl
theorem O30 : T.zero 30 = some ([.int .u64 0], false) := rfl
theorem O31 : T.zero 31 = some ([.int .u32 0], false) := rfl
theorem O32 : T.zero 32 = some ([.slice none 0 0], false) := rfl
theorem O34 : T.zero 34 = some ([.int .i64 0, .int .u32 0, .int .u32 0, .int .u64 0, .int .u64 0, .int .u32 0, .int .i64 0, .bool false, .int .i64 0, .slice none 0 0, .slice none 0 0], true) := rfl
theorem O38 : T.zero 38 = some ([.int .u32 0, .int .i64 0, .int .u64 0, .int .i64 0], true) := rfl
theorem O41 : T.zero 41 = some ([.int .i64 0, .int .i64 0, .int .i64 0, .int .i64 0, .int .u32 0, .int .u32 0, .int .u64 0, .int .u64 0, .int .u32 0, .int .i64 0, .bool false, .int .i64 0, .slice none 0 0, .slice none 0 0], true) := rfl
theorem O44 : T.zero 44 = some ([.slice none 0 0], false) := rfl
theorem O45 : T.zero 45 = some ([.slice none 0 0], false) := rfl
theorem O49 : T.zero 49 = some ([.int .i64 0, .int .i64 0, .int .i64 0, .bool false, .int .i64 0, .bool false, .int .i64 0], true) := rfl
theorem O54 : T.zero 54 = some ([.int .i64 0, .int .i64 0, .int .i64 0], true) := rfl
theorem O56 : T.zero 56 = some ([.int .i64 0, .int .i64 0, .slice none 0 0], true) := rfl
theorem O58 : T.zero 58 = some ([.int .i64 0, .int .i64 0, .slice none 0 0, .int .i64 0, .int .i64 0, .bool false], true) := rfl
theorem O63 : T.zero 63 = some ([.int .i64 0, .int .u64 0, .int .u32 0, .int .u32 0, .int .i64 0, .bool false, .int .i64 0, .int .i64 0, .int .u64 0, .slice none 0 0, .slice none 0 0], true) := rfl
theorem O64 : T.zero 64 = some ([.nilFunc], false) := rfl
theorem O74 : T.zero 74 = some ([.slice none 0 0], false) := rfl
theorem O81 : T.zero 81 = some ([.pointer none], false) := rfl
theorem O88 : T.zero 88 = some ([.int .u64 0, .int .u64 0, .int .u64 0, .int .u32 0, .int .i64 0, .int .u64 0, .int .i64 0], true) := rfl
theorem O102 : T.zero 102 = some ([.slice none 0 0], false) := rfl
theorem O104 : T.zero 104 = some ([.int .u32 0, .int .u64 0], true) := rfl
theorem O105 : T.zero 105 = some ([.int .u32 0, .int .u64 0, .int .u32 0, .int .u64 0, .int .u32 0, .int .u64 0], true) := rfl
theorem O107 : T.zero 107 = some ([.int .i64 0, .int .i64 0, .int .i64 0, .int .i64 0, .bool false, .int .i64 0], true) := rfl
theorem O109 : T.zero 109 = some ([.slice none 0 0], false) := rfl
theorem O110 : T.zero 110 = some ([.pointer none], false) := rfl
theorem O113 : T.zero 113 = some ([.slice none 0 0], false) := rfl
theorem O117 : T.zero 117 = some ([.slice none 0 0], false) := rfl
theorem O120 : T.zero 120 = some ([.int .u32 0, .slice none 0 0, .slice none 0 0, .int .i64 0, .int .i64 0, .int .i64 0, .bool false, .int .i64 0, .bool false, .int .i64 0], true) := rfl
theorem O130 : T.zero 130 = some ([.int .i64 0, .bool false, .int .i64 0], true) := rfl
theorem O154 : T.zero 154 = some ([.slice none 0 0, .slice none 0 0, .slice none 0 0], true) := rfl
theorem O161 : T.zero 161 = some ([.int .u64 0, .int .u64 0, .int .u64 0, .int .u32 0, .int .i64 0, .int .u64 0, .int .i64 0, .int .i64 0], true) := rfl
theorem O174 : T.zero 174 = some ([.pointer none], false) := rfl
theorem O184 : T.zero 184 = some ([.slice none 0 0], false) := rfl
theorem O188 : T.zero 188 = some ([.pointer none], false) := rfl
theorem O193 : T.zero 193 = some ([.pointer none], false) := rfl
theorem O195 : T.zero 195 = some ([.slice none 0 0, .int .i64 0, .bool false], true) := rfl
theorem O203 : T.zero 203 = some ([.int .i64 0, .int .u64 0, .slice none 0 0], true) := rfl
theorem O207 : T.zero 207 = some ([.slice none 0 0], false) := rfl
theorem O213 : T.zero 213 = some ([.slice none 0 0], false) := rfl
theorem O215 : T.zero 215 = some ([.int .i64 0, .int .i64 0, .int .u64 0, .int .u32 0, .int .u32 0, .int .i64 0, .bool false, .int .i64 0, .int .i64 0, .int .u64 0, .slice none 0 0, .slice none 0 0, .bool false, .int .i64 0, .int .i64 0], true) := rfl
theorem O217 : T.zero 217 = some ([.int .u32 0, .int .i64 0, .bool false, .int .i64 0], true) := rfl
theorem O218 : T.zero 218 = some ([.slice none 0 0], false) := rfl
theorem O221 : T.zero 221 = some ([.slice none 0 0], false) := rfl
theorem O223 : T.zero 223 = some ([.slice none 0 0], true) := rfl
theorem O224 : T.zero 224 = some ([.slice none 0 0], false) := rfl
theorem O225 : T.zero 225 = some ([.map none], false) := rfl
theorem O227 : T.zero 227 = some ([], true) := rfl
theorem O228 : T.zero 228 = some ([], true) := rfl
theorem O230 : T.zero 230 = some ([.int .i64 0], true) := rfl
theorem O232 : T.zero 232 = some ([.slice none 0 0, .slice none 0 0, .map none, .int .u64 0, .int .u32 0, .int .i64 0, .int .i64 0, .int .i64 0], true) := rfl
theorem O235 : T.zero 235 = some ([.int .u32 0, .slice none 0 0, .slice none 0 0, .int .i64 0, .int .i64 0, .int .i64 0, .bool false, .int .i64 0, .bool false, .int .i64 0, .bool false], true) := rfl
theorem O236 : T.zero 236 = some ([.pointer none], false) := rfl
theorem O245 : T.zero 245 = some ([.slice none 0 0], false) := rfl
theorem O256 : T.zero 256 = some ([.map none], false) := rfl
theorem O262 : T.zero 262 = some ([.slice none 0 0, .bool false], true) := rfl
theorem O266 : T.zero 266 = some ([.slice none 0 0, .bool false], true) := rfl
theorem O274 : T.zero 274 = some ([.pointer none], false) := rfl
theorem O283 : T.zero 283 = some ([.int .u32 0, .int .i32 0, .int .u32 0], true) := rfl
theorem O285 : T.zero 285 = some ([.slice none 0 0, .int .u32 0, .int .i32 0, .int .u32 0, .string ⟨#[]⟩], true) := rfl
theorem O286 : T.zero 286 = some ([.pointer none], false) := rfl
theorem O288 : T.zero 288 = some ([.pointer none], false) := rfl
theorem O312 : T.zero 312 = some ([.int .u16 0], false) := rfl
theorem L23 : T.sl 23 = some (41, 14) := rfl
theorem L32 : T.sl 32 = some (5, 1) := rfl
theorem L44 : T.sl 44 = some (58, 6) := rfl
theorem L45 : T.sl 45 = some (54, 3) := rfl
theorem L74 : T.sl 74 = some (32, 1) := rfl
theorem L102 : T.sl 102 = some (107, 6) := rfl
theorem L109 : T.sl 109 = some (215, 15) := rfl
theorem L113 : T.sl 113 = some (63, 11) := rfl
theorem L117 : T.sl 117 = some (217, 4) := rfl
theorem L184 : T.sl 184 = some (203, 3) := rfl
theorem L207 : T.sl 207 = some (9, 1) := rfl
theorem L213 : T.sl 213 = some (44, 1) := rfl
theorem L218 : T.sl 218 = some (120, 10) := rfl
theorem L221 : T.sl 221 = some (274, 1) := rfl
theorem L224 : T.sl 224 = some (235, 11) := rfl
theorem L245 : T.sl 245 = some (31, 1) := rfl
theorem N9 : T.sl 9 = none := rfl
theorem R9 : T.str 9 = true := rfl
theorem R23 : T.str 23 = false := rfl
theorem R32 : T.str 32 = false := rfl
theorem R44 : T.str 44 = false := rfl
theorem R45 : T.str 45 = false := rfl
theorem R74 : T.str 74 = false := rfl
theorem R102 : T.str 102 = false := rfl
theorem R109 : T.str 109 = false := rfl
theorem R113 : T.str 113 = false := rfl
theorem R117 : T.str 117 = false := rfl
theorem R184 : T.str 184 = false := rfl
theorem R207 : T.str 207 = false := rfl
theorem R213 : T.str 213 = false := rfl
theorem R218 : T.str 218 = false := rfl
theorem R221 : T.str 221 = false := rfl
theorem R224 : T.str 224 = false := rfl
theorem R245 : T.str 245 = false := rfl
theorem X26 : T.ptr 26 = true := rfl
theorem X81 : T.ptr 81 = true := rfl
theorem X110 : T.ptr 110 = true := rfl
theorem X174 : T.ptr 174 = true := rfl
theorem X188 : T.ptr 188 = true := rfl
theorem X193 : T.ptr 193 = true := rfl
theorem X236 : T.ptr 236 = true := rfl
theorem X274 : T.ptr 274 = true := rfl
theorem X286 : T.ptr 286 = true := rfl
theorem X288 : T.ptr 288 = true := rfl
theorem Y4 : T.boolT 4 = true := rfl
theorem E38 : T.flat 38 = some [some .u32, some .i64, some .u64, some .i64] := rfl
theorem E49 : T.flat 49 = some [some .i64, some .i64, some .i64, none, some .i64, none, some .i64] := rfl
theorem E54 : T.flat 54 = some [some .i64, some .i64, some .i64] := rfl
theorem E104 : T.flat 104 = some [some .u32, some .u64] := rfl
theorem E107 : T.flat 107 = some [some .i64, some .i64, some .i64, some .i64, none, some .i64] := rfl
theorem E130 : T.flat 130 = some [some .i64, none, some .i64] := rfl
theorem A105 : T.arr 105 = some (3, 2) := rfl
theorem A23 : T.arr 23 = none := rfl
theorem A32 : T.arr 32 = none := rfl
theorem A44 : T.arr 44 = none := rfl
theorem A45 : T.arr 45 = none := rfl
theorem A74 : T.arr 74 = none := rfl
theorem A102 : T.arr 102 = none := rfl
theorem A109 : T.arr 109 = none := rfl
theorem A113 : T.arr 113 = none := rfl
theorem A117 : T.arr 117 = none := rfl
theorem A184 : T.arr 184 = none := rfl
theorem A207 : T.arr 207 = none := rfl
theorem A213 : T.arr 213 = none := rfl
theorem A218 : T.arr 218 = none := rfl
theorem A221 : T.arr 221 = none := rfl
theorem A224 : T.arr 224 = none := rfl
theorem A245 : T.arr 245 = none := rfl
theorem G2 : T.bys 2 = false := rfl
theorem G3 : T.bys 3 = false := rfl
theorem G4 : T.bys 4 = false := rfl
theorem G5 : T.bys 5 = false := rfl
theorem G9 : T.bys 9 = false := rfl
theorem G21 : T.bys 21 = false := rfl
theorem G22 : T.bys 22 = false := rfl
theorem G23 : T.bys 23 = false := rfl
theorem G26 : T.bys 26 = false := rfl
theorem G27 : T.bys 27 = false := rfl
theorem G30 : T.bys 30 = false := rfl
theorem G31 : T.bys 31 = false := rfl
theorem G32 : T.bys 32 = true := rfl
theorem G34 : T.bys 34 = false := rfl
theorem G38 : T.bys 38 = false := rfl
theorem G41 : T.bys 41 = false := rfl
theorem G44 : T.bys 44 = false := rfl
theorem G45 : T.bys 45 = false := rfl
theorem G49 : T.bys 49 = false := rfl
theorem G54 : T.bys 54 = false := rfl
theorem G56 : T.bys 56 = false := rfl
theorem G58 : T.bys 58 = false := rfl
theorem G63 : T.bys 63 = false := rfl
theorem G64 : T.bys 64 = false := rfl
theorem G74 : T.bys 74 = false := rfl
theorem G81 : T.bys 81 = false := rfl
theorem G88 : T.bys 88 = false := rfl
theorem G102 : T.bys 102 = false := rfl
theorem G104 : T.bys 104 = false := rfl
theorem G105 : T.bys 105 = false := rfl
theorem G107 : T.bys 107 = false := rfl
theorem G109 : T.bys 109 = false := rfl
theorem G110 : T.bys 110 = false := rfl
theorem G113 : T.bys 113 = false := rfl
theorem G117 : T.bys 117 = false := rfl
theorem G120 : T.bys 120 = false := rfl
theorem G130 : T.bys 130 = false := rfl
theorem G154 : T.bys 154 = false := rfl
theorem G161 : T.bys 161 = false := rfl
theorem G174 : T.bys 174 = false := rfl
theorem G184 : T.bys 184 = false := rfl
theorem G188 : T.bys 188 = false := rfl
theorem G193 : T.bys 193 = false := rfl
theorem G195 : T.bys 195 = false := rfl
theorem G203 : T.bys 203 = false := rfl
theorem G207 : T.bys 207 = false := rfl
theorem G213 : T.bys 213 = false := rfl
theorem G215 : T.bys 215 = false := rfl
theorem G217 : T.bys 217 = false := rfl
theorem G218 : T.bys 218 = false := rfl
theorem G221 : T.bys 221 = false := rfl
theorem G223 : T.bys 223 = false := rfl
theorem G224 : T.bys 224 = false := rfl
theorem G225 : T.bys 225 = false := rfl
theorem G227 : T.bys 227 = false := rfl
theorem G228 : T.bys 228 = false := rfl
theorem G230 : T.bys 230 = false := rfl
theorem G232 : T.bys 232 = false := rfl
theorem G235 : T.bys 235 = false := rfl
theorem G236 : T.bys 236 = false := rfl
theorem G245 : T.bys 245 = false := rfl
theorem G256 : T.bys 256 = false := rfl
theorem G262 : T.bys 262 = false := rfl
theorem G266 : T.bys 266 = false := rfl
theorem G274 : T.bys 274 = false := rfl
theorem G283 : T.bys 283 = false := rfl
theorem G285 : T.bys 285 = false := rfl
theorem G286 : T.bys 286 = false := rfl
theorem G288 : T.bys 288 = false := rfl
theorem G312 : T.bys 312 = false := rfl
theorem R2 : T.str 2 = false := rfl
theorem R3 : T.str 3 = false := rfl
theorem R4 : T.str 4 = false := rfl
theorem R5 : T.str 5 = false := rfl
theorem R21 : T.str 21 = false := rfl
theorem R22 : T.str 22 = false := rfl
theorem R26 : T.str 26 = false := rfl
theorem R27 : T.str 27 = false := rfl
theorem R30 : T.str 30 = false := rfl
theorem R31 : T.str 31 = false := rfl
theorem R34 : T.str 34 = false := rfl
theorem R38 : T.str 38 = false := rfl
theorem R41 : T.str 41 = false := rfl
theorem R49 : T.str 49 = false := rfl
theorem R54 : T.str 54 = false := rfl
theorem R56 : T.str 56 = false := rfl
theorem R58 : T.str 58 = false := rfl
theorem R63 : T.str 63 = false := rfl
theorem R64 : T.str 64 = false := rfl
theorem R81 : T.str 81 = false := rfl
theorem R88 : T.str 88 = false := rfl
theorem R104 : T.str 104 = false := rfl
theorem R105 : T.str 105 = false := rfl
theorem R107 : T.str 107 = false := rfl
theorem R110 : T.str 110 = false := rfl
theorem R120 : T.str 120 = false := rfl
theorem R130 : T.str 130 = false := rfl
theorem R154 : T.str 154 = false := rfl
theorem R161 : T.str 161 = false := rfl
theorem R174 : T.str 174 = false := rfl
theorem R188 : T.str 188 = false := rfl
theorem R193 : T.str 193 = false := rfl
theorem R195 : T.str 195 = false := rfl
theorem R203 : T.str 203 = false := rfl
theorem R215 : T.str 215 = false := rfl
theorem R217 : T.str 217 = false := rfl
theorem R223 : T.str 223 = false := rfl
theorem R225 : T.str 225 = false := rfl
theorem R227 : T.str 227 = false := rfl
theorem R228 : T.str 228 = false := rfl
theorem R230 : T.str 230 = false := rfl
theorem R232 : T.str 232 = false := rfl
theorem R235 : T.str 235 = false := rfl
theorem R236 : T.str 236 = false := rfl
theorem R256 : T.str 256 = false := rfl
theorem R262 : T.str 262 = false := rfl
theorem R266 : T.str 266 = false := rfl
theorem R274 : T.str 274 = false := rfl
theorem R283 : T.str 283 = false := rfl
theorem R285 : T.str 285 = false := rfl
theorem R286 : T.str 286 = false := rfl
theorem R288 : T.str 288 = false := rfl
theorem R312 : T.str 312 = false := rfl
theorem L105 : T.sl 105 = none := rfl
theorem C3_5 : T.conv 3 5 = some .u8 := rfl
theorem C3_22 : T.conv 3 22 = some .u64 := rfl
theorem C3_30 : T.conv 3 30 = some .u64 := rfl
theorem C3_31 : T.conv 3 31 = some .u32 := rfl
theorem C5_3 : T.conv 5 3 = some .i64 := rfl
theorem C5_22 : T.conv 5 22 = some .u64 := rfl
theorem C5_31 : T.conv 5 31 = some .u32 := rfl
theorem C22_3 : T.conv 22 3 = some .i64 := rfl
theorem C22_5 : T.conv 22 5 = some .u8 := rfl
theorem C22_31 : T.conv 22 31 = some .u32 := rfl
theorem C30_3 : T.conv 30 3 = some .i64 := rfl
theorem C31_3 : T.conv 31 3 = some .i64 := rfl
theorem C31_22 : T.conv 31 22 = some .u64 := rfl
theorem C32_9 : T.conv 32 9 = none := rfl
theorem C32_32 : T.conv 32 32 = none := rfl
end Go.VC

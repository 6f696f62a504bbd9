/- The types of the seat's program that the walks meet: what each is, how many cells it takes, what its zero value is. -/
import Derived.Test.YtabcaiecoiejkaaProg
import Derived.Test.YtabcaiecoiejkaaK9
namespace Go.Proofs.Ytabcaiecoiejkaa
open Go K

def tab : Tab := [
  (3, ⟨TypeDesc.int IntKind.i64, 1, [.int .i64 0]⟩),
  (9, ⟨TypeDesc.string, 1, [.string ⟨#[]⟩]⟩),
  (4, ⟨TypeDesc.bool, 1, [.bool false]⟩),
  (5, ⟨TypeDesc.int IntKind.u8, 1, [.int .u8 0]⟩),
  (24, ⟨TypeDesc.struct #[Field.mk "V6" 4 0 false "" "" 0, Field.mk "B" 22 1 false "" "" 1], 17, [.bool false, .int .u8 0, .int .u8 0, .int .u8 0, .int .u8 0, .int .u8 0, .int .u8 0, .int .u8 0, .int .u8 0, .int .u8 0, .int .u8 0, .int .u8 0, .int .u8 0, .int .u8 0, .int .u8 0, .int .u8 0, .int .u8 0]⟩),
  (22, ⟨TypeDesc.array 16 5, 16, [.int .u8 0, .int .u8 0, .int .u8 0, .int .u8 0, .int .u8 0, .int .u8 0, .int .u8 0, .int .u8 0, .int .u8 0, .int .u8 0, .int .u8 0, .int .u8 0, .int .u8 0, .int .u8 0, .int .u8 0, .int .u8 0]⟩),
  (30, ⟨TypeDesc.int IntKind.i64, 1, [.int .i64 0]⟩),
  (46, ⟨TypeDesc.slice 5, 1, [.slice none 0 0]⟩),
  (56, ⟨TypeDesc.int IntKind.u64, 1, [.int .u64 0]⟩),
  (28, ⟨TypeDesc.struct #[Field.mk "Src" 3 0 false "" "" 0, Field.mk "Dst" 3 1 false "" "" 8, Field.mk "Data" 9 2 false "" "" 16], 3, [.int .i64 0, .int .i64 0, .string ⟨#[]⟩]⟩),
  (39, ⟨TypeDesc.struct #[Field.mk "Src" 3 0 false "" "" 0, Field.mk "Dst" 3 1 false "" "" 8, Field.mk "Seq" 37 2 false "" "" 16, Field.mk "Ack" 37 3 false "" "" 20, Field.mk "Flags" 3 4 false "" "" 24, Field.mk "Window" 3 5 false "" "" 32, Field.mk "MSS" 3 6 false "" "" 40, Field.mk "Scale" 3 7 false "" "" 48, Field.mk "Data" 9 8 false "" "" 56], 9, [.int .i64 0, .int .i64 0, .int .u32 0, .int .u32 0, .int .i64 0, .int .i64 0, .int .i64 0, .int .i64 0, .string ⟨#[]⟩]⟩),
  (37, ⟨TypeDesc.int IntKind.u32, 1, [.int .u32 0]⟩),
  (117, ⟨TypeDesc.slice 9, 1, [.slice none 0 0]⟩),
  (60, ⟨TypeDesc.pointer 96, 1, [.pointer none]⟩),
  (96, ⟨TypeDesc.struct #[Field.mk "c" 59 0 false "" "adit/socks" 0, Field.mk "state" 3 3 false "" "adit/socks" 56, Field.mk "up" 94 4 false "" "adit/socks" 64, Field.mk "down" 94 5 false "" "adit/socks" 88, Field.mk "clientOver" 4 6 false "" "adit/socks" 112, Field.mk "remoteOver" 4 7 false "" "adit/socks" 113, Field.mk "relayed" 4 8 false "" "adit/socks" 114, Field.mk "target" 65 9 false "" "adit/socks" 120], 27, [.string ⟨#[]⟩, .string ⟨#[]⟩, .slice none 0 0, .int .i64 0, .slice none 0 0, .slice none 0 0, .bool false, .bool false, .bool false, .bool false, .int .u8 0, .int .u8 0, .int .u8 0, .int .u8 0, .int .u8 0, .int .u8 0, .int .u8 0, .int .u8 0, .int .u8 0, .int .u8 0, .int .u8 0, .int .u8 0, .int .u8 0, .int .u8 0, .int .u8 0, .int .u8 0, .int .i64 0]⟩),
  (94, ⟨TypeDesc.struct #[Field.mk "l" 46 0 false "" "adit/socks" 0], 1, [.slice none 0 0]⟩),
  (80, ⟨TypeDesc.struct #[Field.mk "C" 59 0 false "" "" 0, Field.mk "State" 3 3 false "" "" 56, Field.mk "Up" 9 4 false "" "" 64, Field.mk "Down" 9 5 false "" "" 80, Field.mk "ClientOver" 4 6 false "" "" 96, Field.mk "RemoteOver" 4 7 false "" "" 97, Field.mk "Relayed" 4 8 false "" "" 98, Field.mk "Target" 65 9 false "" "" 104], 27, [.string ⟨#[]⟩, .string ⟨#[]⟩, .slice none 0 0, .int .i64 0, .string ⟨#[]⟩, .string ⟨#[]⟩, .bool false, .bool false, .bool false, .bool false, .int .u8 0, .int .u8 0, .int .u8 0, .int .u8 0, .int .u8 0, .int .u8 0, .int .u8 0, .int .u8 0, .int .u8 0, .int .u8 0, .int .u8 0, .int .u8 0, .int .u8 0, .int .u8 0, .int .u8 0, .int .u8 0, .int .i64 0]⟩),
  (79, ⟨TypeDesc.pointer 81, 1, [.pointer none]⟩),
  (57, ⟨TypeDesc.slice 83, 1, [.slice none 0 0]⟩),
  (83, ⟨TypeDesc.struct #[Field.mk "Name" 9 0 false "" "" 0, Field.mk "Addr" 24 1 false "" "" 16], 18, [.string ⟨#[]⟩, .bool false, .int .u8 0, .int .u8 0, .int .u8 0, .int .u8 0, .int .u8 0, .int .u8 0, .int .u8 0, .int .u8 0, .int .u8 0, .int .u8 0, .int .u8 0, .int .u8 0, .int .u8 0, .int .u8 0, .int .u8 0, .int .u8 0]⟩),
  (59, ⟨TypeDesc.struct #[Field.mk "User" 9 0 false "" "" 0, Field.mk "Pass" 9 1 false "" "" 16, Field.mk "Names" 57 2 false "" "" 32], 3, [.string ⟨#[]⟩, .string ⟨#[]⟩, .slice none 0 0]⟩),
  (65, ⟨TypeDesc.struct #[Field.mk "Addr" 24 0 false "" "" 0, Field.mk "Port" 3 17 false "" "" 24], 18, [.bool false, .int .u8 0, .int .u8 0, .int .u8 0, .int .u8 0, .int .u8 0, .int .u8 0, .int .u8 0, .int .u8 0, .int .u8 0, .int .u8 0, .int .u8 0, .int .u8 0, .int .u8 0, .int .u8 0, .int .u8 0, .int .u8 0, .int .i64 0]⟩),
  (2, ⟨TypeDesc.int IntKind.i64, 1, [.int .i64 0]⟩),
  (6, ⟨TypeDesc.int IntKind.u8, 1, [.int .u8 0]⟩),
  (7, ⟨TypeDesc.struct #[Field.mk "x" 2 0 false "" "runtime" 0, Field.mk "y" 3 1 false "" "runtime" 8, Field.mk "signed" 4 2 false "" "runtime" 16, Field.mk "code" 6 3 false "" "runtime" 17], 4, [.int .i64 0, .int .i64 0, .bool false, .int .u8 0]⟩),
  (8, ⟨TypeDesc.struct #[Field.mk "x" 2 0 false "" "runtime" 0, Field.mk "y" 3 1 false "" "runtime" 8, Field.mk "signed" 4 2 false "" "runtime" 16, Field.mk "code" 6 3 false "" "runtime" 17], 4, [.int .i64 0, .int .i64 0, .bool false, .int .u8 0]⟩),
  (10, ⟨TypeDesc.string, 1, [.string ⟨#[]⟩]⟩),
  (11, ⟨TypeDesc.string, 1, [.string ⟨#[]⟩]⟩),
  (12, ⟨TypeDesc.int IntKind.u64, 1, [.int .u64 0]⟩),
  (13, ⟨TypeDesc.struct #[Field.mk "msg" 9 0 false "" "runtime" 0, Field.mk "addr" 12 1 false "" "runtime" 16], 2, [.string ⟨#[]⟩, .int .u64 0]⟩),
  (14, ⟨TypeDesc.struct #[Field.mk "msg" 9 0 false "" "runtime" 0, Field.mk "addr" 12 1 false "" "runtime" 16], 2, [.string ⟨#[]⟩, .int .u64 0]⟩),
  (15, ⟨TypeDesc.pointer 206, 1, [.pointer none]⟩),
  (16, ⟨TypeDesc.pointer 209, 1, [.pointer none]⟩),
  (17, ⟨TypeDesc.pointer 217, 1, [.pointer none]⟩),
  (18, ⟨TypeDesc.struct #[Field.mk "typ" 17 0 false "" "internal/runtime/maps" 0], 1, [.pointer none]⟩),
  (19, ⟨TypeDesc.struct #[Field.mk "typ" 17 0 false "" "internal/runtime/maps" 0], 1, [.pointer none]⟩),
  (21, ⟨TypeDesc.int IntKind.i32, 1, [.int .i32 0]⟩),
  (23, ⟨TypeDesc.struct #[Field.mk "V6" 4 0 false "" "" 0, Field.mk "B" 22 1 false "" "" 1], 17, [.bool false, .int .u8 0, .int .u8 0, .int .u8 0, .int .u8 0, .int .u8 0, .int .u8 0, .int .u8 0, .int .u8 0, .int .u8 0, .int .u8 0, .int .u8 0, .int .u8 0, .int .u8 0, .int .u8 0, .int .u8 0, .int .u8 0]⟩),
  (25, ⟨TypeDesc.struct #[Field.mk "Src" 24 0 false "" "" 0, Field.mk "Dst" 24 17 false "" "" 17], 34, [.bool false, .int .u8 0, .int .u8 0, .int .u8 0, .int .u8 0, .int .u8 0, .int .u8 0, .int .u8 0, .int .u8 0, .int .u8 0, .int .u8 0, .int .u8 0, .int .u8 0, .int .u8 0, .int .u8 0, .int .u8 0, .int .u8 0, .bool false, .int .u8 0, .int .u8 0, .int .u8 0, .int .u8 0, .int .u8 0, .int .u8 0, .int .u8 0, .int .u8 0, .int .u8 0, .int .u8 0, .int .u8 0, .int .u8 0, .int .u8 0, .int .u8 0, .int .u8 0, .int .u8 0]⟩),
  (26, ⟨TypeDesc.struct #[Field.mk "Src" 24 0 false "" "" 0, Field.mk "Dst" 24 17 false "" "" 17], 34, [.bool false, .int .u8 0, .int .u8 0, .int .u8 0, .int .u8 0, .int .u8 0, .int .u8 0, .int .u8 0, .int .u8 0, .int .u8 0, .int .u8 0, .int .u8 0, .int .u8 0, .int .u8 0, .int .u8 0, .int .u8 0, .int .u8 0, .bool false, .int .u8 0, .int .u8 0, .int .u8 0, .int .u8 0, .int .u8 0, .int .u8 0, .int .u8 0, .int .u8 0, .int .u8 0, .int .u8 0, .int .u8 0, .int .u8 0, .int .u8 0, .int .u8 0, .int .u8 0, .int .u8 0]⟩),
  (27, ⟨TypeDesc.struct #[Field.mk "Src" 3 0 false "" "" 0, Field.mk "Dst" 3 1 false "" "" 8, Field.mk "Data" 9 2 false "" "" 16], 3, [.int .i64 0, .int .i64 0, .string ⟨#[]⟩]⟩),
  (29, ⟨TypeDesc.func #[] #[4] false, 1, [.nilFunc]⟩),
  (32, ⟨TypeDesc.func #[24, 24, 28] #[9, 30] false, 1, [.nilFunc]⟩),
  (34, ⟨TypeDesc.func #[24, 24, 9] #[28, 30] false, 1, [.nilFunc]⟩),
  (35, ⟨TypeDesc.func #[26, 28, 9] #[4] false, 1, [.nilFunc]⟩),
  (36, ⟨TypeDesc.struct #[Field.mk "Src" 24 0 false "" "" 0, Field.mk "Dst" 24 17 false "" "" 17], 34, [.bool false, .int .u8 0, .int .u8 0, .int .u8 0, .int .u8 0, .int .u8 0, .int .u8 0, .int .u8 0, .int .u8 0, .int .u8 0, .int .u8 0, .int .u8 0, .int .u8 0, .int .u8 0, .int .u8 0, .int .u8 0, .int .u8 0, .bool false, .int .u8 0, .int .u8 0, .int .u8 0, .int .u8 0, .int .u8 0, .int .u8 0, .int .u8 0, .int .u8 0, .int .u8 0, .int .u8 0, .int .u8 0, .int .u8 0, .int .u8 0, .int .u8 0, .int .u8 0, .int .u8 0]⟩),
  (38, ⟨TypeDesc.struct #[Field.mk "Src" 3 0 false "" "" 0, Field.mk "Dst" 3 1 false "" "" 8, Field.mk "Seq" 37 2 false "" "" 16, Field.mk "Ack" 37 3 false "" "" 20, Field.mk "Flags" 3 4 false "" "" 24, Field.mk "Window" 3 5 false "" "" 32, Field.mk "MSS" 3 6 false "" "" 40, Field.mk "Scale" 3 7 false "" "" 48, Field.mk "Data" 9 8 false "" "" 56], 9, [.int .i64 0, .int .i64 0, .int .u32 0, .int .u32 0, .int .i64 0, .int .i64 0, .int .i64 0, .int .i64 0, .string ⟨#[]⟩]⟩),
  (40, ⟨TypeDesc.func #[24, 24, 39] #[9, 30] false, 1, [.nilFunc]⟩),
  (42, ⟨TypeDesc.func #[24, 24, 9] #[39, 30] false, 1, [.nilFunc]⟩),
  (43, ⟨TypeDesc.func #[36, 39, 9] #[4] false, 1, [.nilFunc]⟩),
  (44, ⟨TypeDesc.struct #[Field.mk "At" 3 0 false "" "" 0, Field.mk "By" 3 1 false "" "" 8], 2, [.int .i64 0, .int .i64 0]⟩),
  (45, ⟨TypeDesc.struct #[Field.mk "At" 3 0 false "" "" 0, Field.mk "By" 3 1 false "" "" 8], 2, [.int .i64 0, .int .i64 0]⟩),
  (47, ⟨TypeDesc.func #[36, 39, 45] #[4] false, 1, [.nilFunc]⟩),
  (48, ⟨TypeDesc.slice 3, 1, [.slice none 0 0]⟩),
  (49, ⟨TypeDesc.int IntKind.u64, 1, [.int .u64 0]⟩),
  (50, ⟨TypeDesc.func #[39] #[3] false, 1, [.nilFunc]⟩),
  (51, ⟨TypeDesc.func #[39, 48] #[4] true, 1, [.nilFunc]⟩),
  (52, ⟨TypeDesc.func #[39, 48] #[4] false, 1, [.nilFunc]⟩),
  (53, ⟨TypeDesc.func #[117] #[3] true, 1, [.nilFunc]⟩),
  (54, ⟨TypeDesc.func #[24, 24, 3, 3] #[9] false, 1, [.nilFunc]⟩),
  (55, ⟨TypeDesc.func #[56, 3] #[9] false, 1, [.nilFunc]⟩),
  (58, ⟨TypeDesc.struct #[Field.mk "User" 9 0 false "" "" 0, Field.mk "Pass" 9 1 false "" "" 16, Field.mk "Names" 57 2 false "" "" 32], 3, [.string ⟨#[]⟩, .string ⟨#[]⟩, .slice none 0 0]⟩),
  (61, ⟨TypeDesc.func #[59] #[60] false, 1, [.nilFunc]⟩),
  (63, ⟨TypeDesc.func #[60, 9, 48] #[9, 3] false, 1, [.nilFunc]⟩),
  (64, ⟨TypeDesc.struct #[Field.mk "Addr" 24 0 false "" "" 0, Field.mk "Port" 3 17 false "" "" 24], 18, [.bool false, .int .u8 0, .int .u8 0, .int .u8 0, .int .u8 0, .int .u8 0, .int .u8 0, .int .u8 0, .int .u8 0, .int .u8 0, .int .u8 0, .int .u8 0, .int .u8 0, .int .u8 0, .int .u8 0, .int .u8 0, .int .u8 0, .int .i64 0]⟩),
  (67, ⟨TypeDesc.func #[] #[65, 4] false, 1, [.nilFunc]⟩),
  (68, ⟨TypeDesc.func #[] #[3] false, 1, [.nilFunc]⟩),
  (69, ⟨TypeDesc.func #[59, 9, 48] #[4] false, 1, [.nilFunc]⟩),
  (70, ⟨TypeDesc.array 4 5, 4, [.int .u8 0, .int .u8 0, .int .u8 0, .int .u8 0]⟩),
  (71, ⟨TypeDesc.func #[9] #[3] false, 1, [.nilFunc]⟩),
  (72, ⟨TypeDesc.func #[3] #[9] false, 1, [.nilFunc]⟩),
  (73, ⟨TypeDesc.func #[5, 5, 5, 5] #[24] false, 1, [.nilFunc]⟩),
  (74, ⟨TypeDesc.func #[24] #[9] false, 1, [.nilFunc]⟩),
  (75, ⟨TypeDesc.func #[24] #[4] false, 1, [.nilFunc]⟩),
  (76, ⟨TypeDesc.func #[70, 3, 22] #[4] false, 1, [.nilFunc]⟩),
  (77, ⟨TypeDesc.func #[59, 9] #[4] false, 1, [.nilFunc]⟩),
  (78, ⟨TypeDesc.slice 86, 1, [.slice none 0 0]⟩),
  (81, ⟨TypeDesc.struct #[Field.mk "C" 59 0 false "" "" 0, Field.mk "State" 3 3 false "" "" 56, Field.mk "Up" 9 4 false "" "" 64, Field.mk "Down" 9 5 false "" "" 80, Field.mk "ClientOver" 4 6 false "" "" 96, Field.mk "RemoteOver" 4 7 false "" "" 97, Field.mk "Relayed" 4 8 false "" "" 98, Field.mk "Target" 65 9 false "" "" 104], 27, [.string ⟨#[]⟩, .string ⟨#[]⟩, .slice none 0 0, .int .i64 0, .string ⟨#[]⟩, .string ⟨#[]⟩, .bool false, .bool false, .bool false, .bool false, .int .u8 0, .int .u8 0, .int .u8 0, .int .u8 0, .int .u8 0, .int .u8 0, .int .u8 0, .int .u8 0, .int .u8 0, .int .u8 0, .int .u8 0, .int .u8 0, .int .u8 0, .int .u8 0, .int .u8 0, .int .u8 0, .int .i64 0]⟩),
  (82, ⟨TypeDesc.struct #[Field.mk "Name" 9 0 false "" "" 0, Field.mk "Addr" 24 1 false "" "" 16], 18, [.string ⟨#[]⟩, .bool false, .int .u8 0, .int .u8 0, .int .u8 0, .int .u8 0, .int .u8 0, .int .u8 0, .int .u8 0, .int .u8 0, .int .u8 0, .int .u8 0, .int .u8 0, .int .u8 0, .int .u8 0, .int .u8 0, .int .u8 0, .int .u8 0]⟩),
  (84, ⟨TypeDesc.func #[60, 79, 86] #[4] false, 1, [.nilFunc]⟩),
  (85, ⟨TypeDesc.struct #[Field.mk "Kind" 3 0 false "" "" 0, Field.mk "N" 3 1 false "" "" 8, Field.mk "Data" 9 2 false "" "" 16, Field.mk "At" 65 3 false "" "" 32], 21, [.int .i64 0, .int .i64 0, .string ⟨#[]⟩, .bool false, .int .u8 0, .int .u8 0, .int .u8 0, .int .u8 0, .int .u8 0, .int .u8 0, .int .u8 0, .int .u8 0, .int .u8 0, .int .u8 0, .int .u8 0, .int .u8 0, .int .u8 0, .int .u8 0, .int .u8 0, .int .u8 0, .int .i64 0]⟩),
  (86, ⟨TypeDesc.struct #[Field.mk "Kind" 3 0 false "" "" 0, Field.mk "N" 3 1 false "" "" 8, Field.mk "Data" 9 2 false "" "" 16, Field.mk "At" 65 3 false "" "" 32], 21, [.int .i64 0, .int .i64 0, .string ⟨#[]⟩, .bool false, .int .u8 0, .int .u8 0, .int .u8 0, .int .u8 0, .int .u8 0, .int .u8 0, .int .u8 0, .int .u8 0, .int .u8 0, .int .u8 0, .int .u8 0, .int .u8 0, .int .u8 0, .int .u8 0, .int .u8 0, .int .u8 0, .int .i64 0]⟩),
  (87, ⟨TypeDesc.func #[60, 79] #[4] false, 1, [.nilFunc]⟩),
  (88, ⟨TypeDesc.func #[59, 78] #[4] false, 1, [.nilFunc]⟩),
  (89, ⟨TypeDesc.func #[65, 30] #[4] false, 1, [.nilFunc]⟩),
  (90, ⟨TypeDesc.array 2 4, 2, [.bool false, .bool false]⟩),
  (91, ⟨TypeDesc.func #[3, 3] #[3] false, 1, [.nilFunc]⟩),
  (92, ⟨TypeDesc.func #[9, 78] #[4] false, 1, [.nilFunc]⟩),
  (93, ⟨TypeDesc.struct #[Field.mk "l" 46 0 false "" "adit/socks" 0], 1, [.slice none 0 0]⟩),
  (95, ⟨TypeDesc.struct #[Field.mk "c" 59 0 false "" "adit/socks" 0, Field.mk "state" 3 3 false "" "adit/socks" 56, Field.mk "up" 94 4 false "" "adit/socks" 64, Field.mk "down" 94 5 false "" "adit/socks" 88, Field.mk "clientOver" 4 6 false "" "adit/socks" 112, Field.mk "remoteOver" 4 7 false "" "adit/socks" 113, Field.mk "relayed" 4 8 false "" "adit/socks" 114, Field.mk "target" 65 9 false "" "adit/socks" 120], 27, [.string ⟨#[]⟩, .string ⟨#[]⟩, .slice none 0 0, .int .i64 0, .slice none 0 0, .slice none 0 0, .bool false, .bool false, .bool false, .bool false, .int .u8 0, .int .u8 0, .int .u8 0, .int .u8 0, .int .u8 0, .int .u8 0, .int .u8 0, .int .u8 0, .int .u8 0, .int .u8 0, .int .u8 0, .int .u8 0, .int .u8 0, .int .u8 0, .int .u8 0, .int .u8 0, .int .i64 0]⟩),
  (97, ⟨TypeDesc.func #[9, 3] #[4] false, 1, [.nilFunc]⟩),
  (98, ⟨TypeDesc.pointer 150, 1, [.pointer none]⟩),
  (99, ⟨TypeDesc.func #[] #[98] false, 1, [.nilFunc]⟩),
  (100, ⟨TypeDesc.array 2 3, 2, [.int .i64 0, .int .i64 0]⟩),
  (102, ⟨TypeDesc.func #[3, 3] #[3, 30] false, 1, [.nilFunc]⟩),
  (103, ⟨TypeDesc.func #[] #[48] false, 1, [.nilFunc]⟩),
  (104, ⟨TypeDesc.func #[3, 156] #[3, 30] true, 1, [.nilFunc]⟩),
  (106, ⟨TypeDesc.func #[3] #[100, 30] false, 1, [.nilFunc]⟩),
  (107, ⟨TypeDesc.func #[3] #[3] false, 1, [.nilFunc]⟩),
  (108, ⟨TypeDesc.func #[3, 48] #[4] false, 1, [.nilFunc]⟩),
  (109, ⟨TypeDesc.slice 119, 1, [.slice none 0 0]⟩),
  (110, ⟨TypeDesc.pointer 160, 1, [.pointer none]⟩),
  (111, ⟨TypeDesc.func #[] #[110] false, 1, [.nilFunc]⟩),
  (112, ⟨TypeDesc.pointer 115, 1, [.pointer none]⟩),
  (113, ⟨TypeDesc.slice 121, 1, [.slice none 0 0]⟩),
  (114, ⟨TypeDesc.struct #[Field.mk "L" 113 0 false "" "" 0], 1, [.slice none 0 0]⟩),
  (115, ⟨TypeDesc.struct #[Field.mk "L" 113 0 false "" "" 0], 1, [.slice none 0 0]⟩),
  (116, ⟨TypeDesc.func #[110, 112, 119] #[4] false, 1, [.nilFunc]⟩),
  (118, ⟨TypeDesc.struct #[Field.mk "Kind" 3 0 false "" "" 0, Field.mk "Port" 3 1 false "" "" 8, Field.mk "N" 3 2 false "" "" 16, Field.mk "L" 117 3 false "" "" 24], 4, [.int .i64 0, .int .i64 0, .int .i64 0, .slice none 0 0]⟩),
  (119, ⟨TypeDesc.struct #[Field.mk "Kind" 3 0 false "" "" 0, Field.mk "Port" 3 1 false "" "" 8, Field.mk "N" 3 2 false "" "" 16, Field.mk "L" 117 3 false "" "" 24], 4, [.int .i64 0, .int .i64 0, .int .i64 0, .slice none 0 0]⟩),
  (120, ⟨TypeDesc.struct #[Field.mk "N" 3 0 false "" "" 0, Field.mk "Depth" 3 1 false "" "" 8, Field.mk "L" 117 2 false "" "" 16], 3, [.int .i64 0, .int .i64 0, .slice none 0 0]⟩),
  (121, ⟨TypeDesc.struct #[Field.mk "N" 3 0 false "" "" 0, Field.mk "Depth" 3 1 false "" "" 8, Field.mk "L" 117 2 false "" "" 16], 3, [.int .i64 0, .int .i64 0, .slice none 0 0]⟩),
  (122, ⟨TypeDesc.func #[109] #[4] false, 1, [.nilFunc]⟩),
  (123, ⟨TypeDesc.func #[3] #[30] false, 1, [.nilFunc]⟩),
  (124, ⟨TypeDesc.func #[3, 117] #[3, 30] true, 1, [.nilFunc]⟩),
  (125, ⟨TypeDesc.func #[3] #[9, 30] false, 1, [.nilFunc]⟩),
  (126, ⟨TypeDesc.func #[24, 24] #[4] false, 1, [.nilFunc]⟩),
  (127, ⟨TypeDesc.func #[24, 24, 9, 9] #[3] false, 1, [.nilFunc]⟩),
  (128, ⟨TypeDesc.func #[24, 24, 9] #[3] false, 1, [.nilFunc]⟩),
  (130, ⟨TypeDesc.func #[9, 3, 3] #[56, 4] false, 1, [.nilFunc]⟩),
  (131, ⟨TypeDesc.func #[39] #[4] false, 1, [.nilFunc]⟩),
  (132, ⟨TypeDesc.func #[3, 3] #[9] false, 1, [.nilFunc]⟩),
  (133, ⟨TypeDesc.func #[24, 24, 9, 9] #[9] false, 1, [.nilFunc]⟩),
  (134, ⟨TypeDesc.func #[135, 9] #[4] false, 1, [.nilFunc]⟩),
  (135, ⟨TypeDesc.pointer 39, 1, [.pointer none]⟩),
  (136, ⟨TypeDesc.func #[9, 3, 3] #[3] false, 1, [.nilFunc]⟩),
  (138, ⟨TypeDesc.func #[39, 9] #[39, 4] false, 1, [.nilFunc]⟩),
  (139, ⟨TypeDesc.array 8 5, 8, [.int .u8 0, .int .u8 0, .int .u8 0, .int .u8 0, .int .u8 0, .int .u8 0, .int .u8 0, .int .u8 0]⟩),
  (140, ⟨TypeDesc.func #[57] #[57] false, 1, [.nilFunc]⟩),
  (141, ⟨TypeDesc.func #[46] #[3] false, 1, [.nilFunc]⟩),
  (142, ⟨TypeDesc.func #[60] #[4] false, 1, [.nilFunc]⟩),
  (143, ⟨TypeDesc.array 3 142, 3, [.nilFunc, .nilFunc, .nilFunc]⟩),
  (144, ⟨TypeDesc.func #[] #[143] false, 1, [.nilFunc]⟩),
  (145, ⟨TypeDesc.func #[3] #[46] false, 1, [.nilFunc]⟩),
  (146, ⟨TypeDesc.func #[5] #[4] false, 1, [.nilFunc]⟩),
  (147, ⟨TypeDesc.func #[46] #[] true, 1, [.nilFunc]⟩),
  (148, ⟨TypeDesc.map 3 151, 1, [.map none]⟩),
  (149, ⟨TypeDesc.struct #[Field.mk "open" 148 0 false "" "adit/udp" 0], 1, [.map none]⟩),
  (150, ⟨TypeDesc.struct #[Field.mk "open" 148 0 false "" "adit/udp" 0], 1, [.map none]⟩),
  (151, ⟨TypeDesc.chan ChanDir.both 100, 1, [.chan none]⟩),
  (152, ⟨TypeDesc.func #[154] #[48] false, 1, [.nilFunc]⟩),
  (153, ⟨TypeDesc.func #[172] #[] false, 1, [.nilFunc]⟩),
  (154, ⟨TypeDesc.func #[172] #[] false, 1, [.nilFunc]⟩),
  (155, ⟨TypeDesc.func #[148] #[154] false, 1, [.nilFunc]⟩),
  (156, ⟨TypeDesc.slice 100, 1, [.slice none 0 0]⟩),
  (157, ⟨TypeDesc.func #[3] #[151] false, 1, [.nilFunc]⟩),
  (158, ⟨TypeDesc.map 3 163, 1, [.map none]⟩),
  (159, ⟨TypeDesc.struct #[Field.mk "open" 158 0 false "" "adit/udp" 0], 1, [.map none]⟩),
  (160, ⟨TypeDesc.struct #[Field.mk "open" 158 0 false "" "adit/udp" 0], 1, [.map none]⟩),
  (161, ⟨TypeDesc.func #[3, 117] #[3, 30] false, 1, [.nilFunc]⟩),
  (162, ⟨TypeDesc.func #[158] #[154] false, 1, [.nilFunc]⟩),
  (163, ⟨TypeDesc.chan ChanDir.both 9, 1, [.chan none]⟩),
  (164, ⟨TypeDesc.func #[3] #[163] false, 1, [.nilFunc]⟩),
  (165, ⟨TypeDesc.func #[117] #[3] false, 1, [.nilFunc]⟩),
  (166, ⟨TypeDesc.array 4 3, 4, [.int .i64 0, .int .i64 0, .int .i64 0, .int .i64 0]⟩),
  (167, ⟨TypeDesc.func #[3, 3, 3] #[4] false, 1, [.nilFunc]⟩),
  (168, ⟨TypeDesc.pointer 94, 1, [.pointer none]⟩),
  (169, ⟨TypeDesc.slice 30, 1, [.slice none 0 0]⟩),
  (170, ⟨TypeDesc.func #[5] #[] false, 1, [.nilFunc]⟩),
  (171, ⟨TypeDesc.func #[48] #[] false, 1, [.nilFunc]⟩),
  (172, ⟨TypeDesc.func #[3] #[4] false, 1, [.nilFunc]⟩),
  (173, ⟨TypeDesc.func #[117] #[9] false, 1, [.nilFunc]⟩),
  (175, ⟨TypeDesc.func #[3] #[9, 3, 4] false, 1, [.nilFunc]⟩),
  (176, ⟨TypeDesc.func #[9, 5] #[3] false, 1, [.nilFunc]⟩),
  (177, ⟨TypeDesc.func #[57, 178] #[3] false, 1, [.nilFunc]⟩),
  (178, ⟨TypeDesc.func #[83] #[4] false, 1, [.nilFunc]⟩),
  (180, ⟨TypeDesc.func #[9] #[24, 30] false, 1, [.nilFunc]⟩),
  (181, ⟨TypeDesc.func #[48, 154] #[48] false, 1, [.nilFunc]⟩),
  (182, ⟨TypeDesc.func #[48, 3, 3, 3] #[] false, 1, [.nilFunc]⟩),
  (183, ⟨TypeDesc.func #[49] #[3] false, 1, [.nilFunc]⟩),
  (184, ⟨TypeDesc.func #[48, 3, 3] #[] false, 1, [.nilFunc]⟩),
  (185, ⟨TypeDesc.int IntKind.i64, 1, [.int .i64 0]⟩),
  (187, ⟨TypeDesc.func #[48, 3, 3] #[3, 185] false, 1, [.nilFunc]⟩),
  (188, ⟨TypeDesc.func #[48, 3, 3] #[4] false, 1, [.nilFunc]⟩),
  (189, ⟨TypeDesc.func #[3, 3] #[4] false, 1, [.nilFunc]⟩),
  (190, ⟨TypeDesc.func #[48, 3, 3, 3] #[3] false, 1, [.nilFunc]⟩),
  (192, ⟨TypeDesc.func #[48, 3, 3, 3] #[3, 4] false, 1, [.nilFunc]⟩),
  (193, ⟨TypeDesc.func #[37] #[3] false, 1, [.nilFunc]⟩),
  (194, ⟨TypeDesc.func #[56] #[3] false, 1, [.nilFunc]⟩),
  (195, ⟨TypeDesc.int IntKind.u64, 1, [.int .u64 0]⟩),
  (196, ⟨TypeDesc.func #[3] #[49] false, 1, [.nilFunc]⟩),
  (197, ⟨TypeDesc.func #[] #[56] false, 1, [.nilFunc]⟩),
  (198, ⟨TypeDesc.func #[48, 3, 199] #[3] false, 1, [.nilFunc]⟩),
  (199, ⟨TypeDesc.pointer 3, 1, [.pointer none]⟩),
  (200, ⟨TypeDesc.func #[48, 3, 3, 3, 199] #[3] false, 1, [.nilFunc]⟩),
  (201, ⟨TypeDesc.pointer 195, 1, [.pointer none]⟩),
  (203, ⟨TypeDesc.func #[48, 3, 3, 199] #[3, 3] false, 1, [.nilFunc]⟩),
  (204, ⟨TypeDesc.func #[] #[9] false, 1, [.nilFunc]⟩)]
theorem tab_ok : TabOk Try.prog tab := by
  unfold tab
  refine TabOk.cons ?_ Try.underlying3 (by kernel_rfl)
  refine TabOk.cons ?_ Try.underlying9 (by kernel_rfl)
  refine TabOk.cons ?_ Try.underlying4 (by kernel_rfl)
  refine TabOk.cons ?_ Try.underlying5 (by kernel_rfl)
  refine TabOk.cons ?_ Try.underlying24 (by kernel_rfl)
  refine TabOk.cons ?_ Try.underlying22 (by kernel_rfl)
  refine TabOk.cons ?_ Try.underlying30 (by kernel_rfl)
  refine TabOk.cons ?_ Try.underlying46 (by kernel_rfl)
  refine TabOk.cons ?_ Try.underlying56 (by kernel_rfl)
  refine TabOk.cons ?_ Try.underlying28 (by kernel_rfl)
  refine TabOk.cons ?_ Try.underlying39 (by kernel_rfl)
  refine TabOk.cons ?_ Try.underlying37 (by kernel_rfl)
  refine TabOk.cons ?_ Try.underlying117 (by kernel_rfl)
  refine TabOk.cons ?_ Try.underlying60 (by kernel_rfl)
  refine TabOk.cons ?_ Try.underlying96 (by kernel_rfl)
  refine TabOk.cons ?_ Try.underlying94 (by kernel_rfl)
  refine TabOk.cons ?_ Try.underlying80 (by kernel_rfl)
  refine TabOk.cons ?_ Try.underlying79 (by kernel_rfl)
  refine TabOk.cons ?_ Try.underlying57 (by kernel_rfl)
  refine TabOk.cons ?_ Try.underlying83 (by kernel_rfl)
  refine TabOk.cons ?_ Try.underlying59 (by kernel_rfl)
  refine TabOk.cons ?_ Try.underlying65 (by kernel_rfl)
  refine TabOk.cons ?_ Try.underlying2 (by kernel_rfl)
  refine TabOk.cons ?_ Try.underlying6 (by kernel_rfl)
  refine TabOk.cons ?_ Try.underlying7 (by kernel_rfl)
  refine TabOk.cons ?_ Try.underlying8 (by kernel_rfl)
  refine TabOk.cons ?_ Try.underlying10 (by kernel_rfl)
  refine TabOk.cons ?_ Try.underlying11 (by kernel_rfl)
  refine TabOk.cons ?_ Try.underlying12 (by kernel_rfl)
  refine TabOk.cons ?_ Try.underlying13 (by kernel_rfl)
  refine TabOk.cons ?_ Try.underlying14 (by kernel_rfl)
  refine TabOk.cons ?_ Try.underlying15 (by kernel_rfl)
  refine TabOk.cons ?_ Try.underlying16 (by kernel_rfl)
  refine TabOk.cons ?_ Try.underlying17 (by kernel_rfl)
  refine TabOk.cons ?_ Try.underlying18 (by kernel_rfl)
  refine TabOk.cons ?_ Try.underlying19 (by kernel_rfl)
  refine TabOk.cons ?_ Try.underlying21 (by kernel_rfl)
  refine TabOk.cons ?_ Try.underlying23 (by kernel_rfl)
  refine TabOk.cons ?_ Try.underlying25 (by kernel_rfl)
  refine TabOk.cons ?_ Try.underlying26 (by kernel_rfl)
  refine TabOk.cons ?_ Try.underlying27 (by kernel_rfl)
  refine TabOk.cons ?_ Try.underlying29 (by kernel_rfl)
  refine TabOk.cons ?_ Try.underlying32 (by kernel_rfl)
  refine TabOk.cons ?_ Try.underlying34 (by kernel_rfl)
  refine TabOk.cons ?_ Try.underlying35 (by kernel_rfl)
  refine TabOk.cons ?_ Try.underlying36 (by kernel_rfl)
  refine TabOk.cons ?_ Try.underlying38 (by kernel_rfl)
  refine TabOk.cons ?_ Try.underlying40 (by kernel_rfl)
  refine TabOk.cons ?_ Try.underlying42 (by kernel_rfl)
  refine TabOk.cons ?_ Try.underlying43 (by kernel_rfl)
  refine TabOk.cons ?_ Try.underlying44 (by kernel_rfl)
  refine TabOk.cons ?_ Try.underlying45 (by kernel_rfl)
  refine TabOk.cons ?_ Try.underlying47 (by kernel_rfl)
  refine TabOk.cons ?_ Try.underlying48 (by kernel_rfl)
  refine TabOk.cons ?_ Try.underlying49 (by kernel_rfl)
  refine TabOk.cons ?_ Try.underlying50 (by kernel_rfl)
  refine TabOk.cons ?_ Try.underlying51 (by kernel_rfl)
  refine TabOk.cons ?_ Try.underlying52 (by kernel_rfl)
  refine TabOk.cons ?_ Try.underlying53 (by kernel_rfl)
  refine TabOk.cons ?_ Try.underlying54 (by kernel_rfl)
  refine TabOk.cons ?_ Try.underlying55 (by kernel_rfl)
  refine TabOk.cons ?_ Try.underlying58 (by kernel_rfl)
  refine TabOk.cons ?_ Try.underlying61 (by kernel_rfl)
  refine TabOk.cons ?_ Try.underlying63 (by kernel_rfl)
  refine TabOk.cons ?_ Try.underlying64 (by kernel_rfl)
  refine TabOk.cons ?_ Try.underlying67 (by kernel_rfl)
  refine TabOk.cons ?_ Try.underlying68 (by kernel_rfl)
  refine TabOk.cons ?_ Try.underlying69 (by kernel_rfl)
  refine TabOk.cons ?_ Try.underlying70 (by kernel_rfl)
  refine TabOk.cons ?_ Try.underlying71 (by kernel_rfl)
  refine TabOk.cons ?_ Try.underlying72 (by kernel_rfl)
  refine TabOk.cons ?_ Try.underlying73 (by kernel_rfl)
  refine TabOk.cons ?_ Try.underlying74 (by kernel_rfl)
  refine TabOk.cons ?_ Try.underlying75 (by kernel_rfl)
  refine TabOk.cons ?_ Try.underlying76 (by kernel_rfl)
  refine TabOk.cons ?_ Try.underlying77 (by kernel_rfl)
  refine TabOk.cons ?_ Try.underlying78 (by kernel_rfl)
  refine TabOk.cons ?_ Try.underlying81 (by kernel_rfl)
  refine TabOk.cons ?_ Try.underlying82 (by kernel_rfl)
  refine TabOk.cons ?_ Try.underlying84 (by kernel_rfl)
  refine TabOk.cons ?_ Try.underlying85 (by kernel_rfl)
  refine TabOk.cons ?_ Try.underlying86 (by kernel_rfl)
  refine TabOk.cons ?_ Try.underlying87 (by kernel_rfl)
  refine TabOk.cons ?_ Try.underlying88 (by kernel_rfl)
  refine TabOk.cons ?_ Try.underlying89 (by kernel_rfl)
  refine TabOk.cons ?_ Try.underlying90 (by kernel_rfl)
  refine TabOk.cons ?_ Try.underlying91 (by kernel_rfl)
  refine TabOk.cons ?_ Try.underlying92 (by kernel_rfl)
  refine TabOk.cons ?_ Try.underlying93 (by kernel_rfl)
  refine TabOk.cons ?_ Try.underlying95 (by kernel_rfl)
  refine TabOk.cons ?_ Try.underlying97 (by kernel_rfl)
  refine TabOk.cons ?_ Try.underlying98 (by kernel_rfl)
  refine TabOk.cons ?_ Try.underlying99 (by kernel_rfl)
  refine TabOk.cons ?_ Try.underlying100 (by kernel_rfl)
  refine TabOk.cons ?_ Try.underlying102 (by kernel_rfl)
  refine TabOk.cons ?_ Try.underlying103 (by kernel_rfl)
  refine TabOk.cons ?_ Try.underlying104 (by kernel_rfl)
  refine TabOk.cons ?_ Try.underlying106 (by kernel_rfl)
  refine TabOk.cons ?_ Try.underlying107 (by kernel_rfl)
  refine TabOk.cons ?_ Try.underlying108 (by kernel_rfl)
  refine TabOk.cons ?_ Try.underlying109 (by kernel_rfl)
  refine TabOk.cons ?_ Try.underlying110 (by kernel_rfl)
  refine TabOk.cons ?_ Try.underlying111 (by kernel_rfl)
  refine TabOk.cons ?_ Try.underlying112 (by kernel_rfl)
  refine TabOk.cons ?_ Try.underlying113 (by kernel_rfl)
  refine TabOk.cons ?_ Try.underlying114 (by kernel_rfl)
  refine TabOk.cons ?_ Try.underlying115 (by kernel_rfl)
  refine TabOk.cons ?_ Try.underlying116 (by kernel_rfl)
  refine TabOk.cons ?_ Try.underlying118 (by kernel_rfl)
  refine TabOk.cons ?_ Try.underlying119 (by kernel_rfl)
  refine TabOk.cons ?_ Try.underlying120 (by kernel_rfl)
  refine TabOk.cons ?_ Try.underlying121 (by kernel_rfl)
  refine TabOk.cons ?_ Try.underlying122 (by kernel_rfl)
  refine TabOk.cons ?_ Try.underlying123 (by kernel_rfl)
  refine TabOk.cons ?_ Try.underlying124 (by kernel_rfl)
  refine TabOk.cons ?_ Try.underlying125 (by kernel_rfl)
  refine TabOk.cons ?_ Try.underlying126 (by kernel_rfl)
  refine TabOk.cons ?_ Try.underlying127 (by kernel_rfl)
  refine TabOk.cons ?_ Try.underlying128 (by kernel_rfl)
  refine TabOk.cons ?_ Try.underlying130 (by kernel_rfl)
  refine TabOk.cons ?_ Try.underlying131 (by kernel_rfl)
  refine TabOk.cons ?_ Try.underlying132 (by kernel_rfl)
  refine TabOk.cons ?_ Try.underlying133 (by kernel_rfl)
  refine TabOk.cons ?_ Try.underlying134 (by kernel_rfl)
  refine TabOk.cons ?_ Try.underlying135 (by kernel_rfl)
  refine TabOk.cons ?_ Try.underlying136 (by kernel_rfl)
  refine TabOk.cons ?_ Try.underlying138 (by kernel_rfl)
  refine TabOk.cons ?_ Try.underlying139 (by kernel_rfl)
  refine TabOk.cons ?_ Try.underlying140 (by kernel_rfl)
  refine TabOk.cons ?_ Try.underlying141 (by kernel_rfl)
  refine TabOk.cons ?_ Try.underlying142 (by kernel_rfl)
  refine TabOk.cons ?_ Try.underlying143 (by kernel_rfl)
  refine TabOk.cons ?_ Try.underlying144 (by kernel_rfl)
  refine TabOk.cons ?_ Try.underlying145 (by kernel_rfl)
  refine TabOk.cons ?_ Try.underlying146 (by kernel_rfl)
  refine TabOk.cons ?_ Try.underlying147 (by kernel_rfl)
  refine TabOk.cons ?_ Try.underlying148 (by kernel_rfl)
  refine TabOk.cons ?_ Try.underlying149 (by kernel_rfl)
  refine TabOk.cons ?_ Try.underlying150 (by kernel_rfl)
  refine TabOk.cons ?_ Try.underlying151 (by kernel_rfl)
  refine TabOk.cons ?_ Try.underlying152 (by kernel_rfl)
  refine TabOk.cons ?_ Try.underlying153 (by kernel_rfl)
  refine TabOk.cons ?_ Try.underlying154 (by kernel_rfl)
  refine TabOk.cons ?_ Try.underlying155 (by kernel_rfl)
  refine TabOk.cons ?_ Try.underlying156 (by kernel_rfl)
  refine TabOk.cons ?_ Try.underlying157 (by kernel_rfl)
  refine TabOk.cons ?_ Try.underlying158 (by kernel_rfl)
  refine TabOk.cons ?_ Try.underlying159 (by kernel_rfl)
  refine TabOk.cons ?_ Try.underlying160 (by kernel_rfl)
  refine TabOk.cons ?_ Try.underlying161 (by kernel_rfl)
  refine TabOk.cons ?_ Try.underlying162 (by kernel_rfl)
  refine TabOk.cons ?_ Try.underlying163 (by kernel_rfl)
  refine TabOk.cons ?_ Try.underlying164 (by kernel_rfl)
  refine TabOk.cons ?_ Try.underlying165 (by kernel_rfl)
  refine TabOk.cons ?_ Try.underlying166 (by kernel_rfl)
  refine TabOk.cons ?_ Try.underlying167 (by kernel_rfl)
  refine TabOk.cons ?_ Try.underlying168 (by kernel_rfl)
  refine TabOk.cons ?_ Try.underlying169 (by kernel_rfl)
  refine TabOk.cons ?_ Try.underlying170 (by kernel_rfl)
  refine TabOk.cons ?_ Try.underlying171 (by kernel_rfl)
  refine TabOk.cons ?_ Try.underlying172 (by kernel_rfl)
  refine TabOk.cons ?_ Try.underlying173 (by kernel_rfl)
  refine TabOk.cons ?_ Try.underlying175 (by kernel_rfl)
  refine TabOk.cons ?_ Try.underlying176 (by kernel_rfl)
  refine TabOk.cons ?_ Try.underlying177 (by kernel_rfl)
  refine TabOk.cons ?_ Try.underlying178 (by kernel_rfl)
  refine TabOk.cons ?_ Try.underlying180 (by kernel_rfl)
  refine TabOk.cons ?_ Try.underlying181 (by kernel_rfl)
  refine TabOk.cons ?_ Try.underlying182 (by kernel_rfl)
  refine TabOk.cons ?_ Try.underlying183 (by kernel_rfl)
  refine TabOk.cons ?_ Try.underlying184 (by kernel_rfl)
  refine TabOk.cons ?_ Try.underlying185 (by kernel_rfl)
  refine TabOk.cons ?_ Try.underlying187 (by kernel_rfl)
  refine TabOk.cons ?_ Try.underlying188 (by kernel_rfl)
  refine TabOk.cons ?_ Try.underlying189 (by kernel_rfl)
  refine TabOk.cons ?_ Try.underlying190 (by kernel_rfl)
  refine TabOk.cons ?_ Try.underlying192 (by kernel_rfl)
  refine TabOk.cons ?_ Try.underlying193 (by kernel_rfl)
  refine TabOk.cons ?_ Try.underlying194 (by kernel_rfl)
  refine TabOk.cons ?_ Try.underlying195 (by kernel_rfl)
  refine TabOk.cons ?_ Try.underlying196 (by kernel_rfl)
  refine TabOk.cons ?_ Try.underlying197 (by kernel_rfl)
  refine TabOk.cons ?_ Try.underlying198 (by kernel_rfl)
  refine TabOk.cons ?_ Try.underlying199 (by kernel_rfl)
  refine TabOk.cons ?_ Try.underlying200 (by kernel_rfl)
  refine TabOk.cons ?_ Try.underlying201 (by kernel_rfl)
  refine TabOk.cons ?_ Try.underlying203 (by kernel_rfl)
  refine TabOk.cons ?_ Try.underlying204 (by kernel_rfl)
  exact TabOk.nil _
theorem follows_mixed : Try.prog.follows .mixedOrders = true := by kernel_rfl
def plains : List Nat := [24, 22, 28, 39, 65, 100]
theorem plains_ok : PlainTs Try.prog plains := by
  unfold plains
  refine PlainTs.cons ?_ (by kernel_rfl) (by kernel_rfl)
  refine PlainTs.cons ?_ (by kernel_rfl) (by kernel_rfl)
  refine PlainTs.cons ?_ (by kernel_rfl) (by kernel_rfl)
  refine PlainTs.cons ?_ (by kernel_rfl) (by kernel_rfl)
  refine PlainTs.cons ?_ (by kernel_rfl) (by kernel_rfl)
  refine PlainTs.cons ?_ (by kernel_rfl) (by kernel_rfl)
  exact PlainTs.nil _
theorem elt5 : Elt Try.prog 5 1 1 [.int .u8 0] := ⟨by kernel_rfl, rfl, by decide⟩
theorem elt9 : Elt Try.prog 9 1 16 [.string ⟨#[]⟩] := ⟨by kernel_rfl, rfl, by decide⟩
theorem elt3 : Elt Try.prog 3 1 8 [.int .i64 0] := ⟨by kernel_rfl, rfl, by decide⟩
theorem fnc3 : Fnc Try.prog 3 := fnc_of Try.func3 rfl (by kernel_rfl)
theorem fnc4 : Fnc Try.prog 4 := fnc_of Try.func4 rfl (by kernel_rfl)
theorem fnc5 : Fnc Try.prog 5 := fnc_of Try.func5 rfl (by kernel_rfl)
theorem fnc6 : Fnc Try.prog 6 := fnc_of Try.func6 rfl (by kernel_rfl)
theorem fnc7 : Fnc Try.prog 7 := fnc_of Try.func7 rfl (by kernel_rfl)
theorem fnc8 : Fnc Try.prog 8 := fnc_of Try.func8 rfl (by kernel_rfl)
theorem fnc9 : Fnc Try.prog 9 := fnc_of Try.func9 rfl (by kernel_rfl)
theorem fnc10 : Fnc Try.prog 10 := fnc_of Try.func10 rfl (by kernel_rfl)
theorem fnc11 : Fnc Try.prog 11 := fnc_of Try.func11 rfl (by kernel_rfl)
theorem fnc12 : Fnc Try.prog 12 := fnc_of Try.func12 rfl (by kernel_rfl)
theorem fnc13 : Fnc Try.prog 13 := fnc_of Try.func13 rfl (by kernel_rfl)
theorem fnc14 : Fnc Try.prog 14 := fnc_of Try.func14 rfl (by kernel_rfl)
theorem fnc15 : Fnc Try.prog 15 := fnc_of Try.func15 rfl (by kernel_rfl)
theorem fnc16 : Fnc Try.prog 16 := fnc_of Try.func16 rfl (by kernel_rfl)
theorem fnc17 : Fnc Try.prog 17 := fnc_of Try.func17 rfl (by kernel_rfl)
theorem fnc18 : Fnc Try.prog 18 := fnc_of Try.func18 rfl (by kernel_rfl)
theorem fnc19 : Fnc Try.prog 19 := fnc_of Try.func19 rfl (by kernel_rfl)
theorem fnc20 : Fnc Try.prog 20 := fnc_of Try.func20 rfl (by kernel_rfl)
theorem fnc21 : Fnc Try.prog 21 := fnc_of Try.func21 rfl (by kernel_rfl)
theorem fnc22 : Fnc Try.prog 22 := fnc_of Try.func22 rfl (by kernel_rfl)
theorem fnc23 : Fnc Try.prog 23 := fnc_of Try.func23 rfl (by kernel_rfl)
theorem fnc24 : Fnc Try.prog 24 := fnc_of Try.func24 rfl (by kernel_rfl)
theorem fnc25 : Fnc Try.prog 25 := fnc_of Try.func25 rfl (by kernel_rfl)
theorem fnc26 : Fnc Try.prog 26 := fnc_of Try.func26 rfl (by kernel_rfl)
theorem fnc27 : Fnc Try.prog 27 := fnc_of Try.func27 rfl (by kernel_rfl)
theorem fnc28 : Fnc Try.prog 28 := fnc_of Try.func28 rfl (by kernel_rfl)
theorem fnc29 : Fnc Try.prog 29 := fnc_of Try.func29 rfl (by kernel_rfl)
theorem fnc30 : Fnc Try.prog 30 := fnc_of Try.func30 rfl (by kernel_rfl)
theorem fnc31 : Fnc Try.prog 31 := fnc_of Try.func31 rfl (by kernel_rfl)
theorem fnc32 : Fnc Try.prog 32 := fnc_of Try.func32 rfl (by kernel_rfl)
theorem fnc33 : Fnc Try.prog 33 := fnc_of Try.func33 rfl (by kernel_rfl)
theorem fnc34 : Fnc Try.prog 34 := fnc_of Try.func34 rfl (by kernel_rfl)
theorem fnc35 : Fnc Try.prog 35 := fnc_of Try.func35 rfl (by kernel_rfl)
theorem fnc36 : Fnc Try.prog 36 := fnc_of Try.func36 rfl (by kernel_rfl)
theorem fnc37 : Fnc Try.prog 37 := fnc_of Try.func37 rfl (by kernel_rfl)
theorem fnc38 : Fnc Try.prog 38 := fnc_of Try.func38 rfl (by kernel_rfl)
theorem fnc39 : Fnc Try.prog 39 := fnc_of Try.func39 rfl (by kernel_rfl)
theorem fnc40 : Fnc Try.prog 40 := fnc_of Try.func40 rfl (by kernel_rfl)
theorem fnc41 : Fnc Try.prog 41 := fnc_of Try.func41 rfl (by kernel_rfl)
theorem fnc42 : Fnc Try.prog 42 := fnc_of Try.func42 rfl (by kernel_rfl)
theorem fnc43 : Fnc Try.prog 43 := fnc_of Try.func43 rfl (by kernel_rfl)
theorem fnc44 : Fnc Try.prog 44 := fnc_of Try.func44 rfl (by kernel_rfl)
theorem fnc45 : Fnc Try.prog 45 := fnc_of Try.func45 rfl (by kernel_rfl)
theorem fnc46 : Fnc Try.prog 46 := fnc_of Try.func46 rfl (by kernel_rfl)
theorem fnc47 : Fnc Try.prog 47 := fnc_of Try.func47 rfl (by kernel_rfl)
theorem fnc48 : Fnc Try.prog 48 := fnc_of Try.func48 rfl (by kernel_rfl)
theorem fnc49 : Fnc Try.prog 49 := fnc_of Try.func49 rfl (by kernel_rfl)
theorem fnc50 : Fnc Try.prog 50 := fnc_of Try.func50 rfl (by kernel_rfl)
theorem fnc51 : Fnc Try.prog 51 := fnc_of Try.func51 rfl (by kernel_rfl)
theorem fnc52 : Fnc Try.prog 52 := fnc_of Try.func52 rfl (by kernel_rfl)
theorem fnc53 : Fnc Try.prog 53 := fnc_of Try.func53 rfl (by kernel_rfl)
theorem fnc54 : Fnc Try.prog 54 := fnc_of Try.func54 rfl (by kernel_rfl)
theorem fnc55 : Fnc Try.prog 55 := fnc_of Try.func55 rfl (by kernel_rfl)
theorem fnc56 : Fnc Try.prog 56 := fnc_of Try.func56 rfl (by kernel_rfl)
theorem fnc57 : Fnc Try.prog 57 := fnc_of Try.func57 rfl (by kernel_rfl)
theorem fnc58 : Fnc Try.prog 58 := fnc_of Try.func58 rfl (by kernel_rfl)
theorem fnc59 : Fnc Try.prog 59 := fnc_of Try.func59 rfl (by kernel_rfl)
theorem fnc60 : Fnc Try.prog 60 := fnc_of Try.func60 rfl (by kernel_rfl)
theorem fnc61 : Fnc Try.prog 61 := fnc_of Try.func61 rfl (by kernel_rfl)
theorem fnc62 : Fnc Try.prog 62 := fnc_of Try.func62 rfl (by kernel_rfl)
theorem fnc63 : Fnc Try.prog 63 := fnc_of Try.func63 rfl (by kernel_rfl)
theorem fnc64 : Fnc Try.prog 64 := fnc_of Try.func64 rfl (by kernel_rfl)
theorem fnc65 : Fnc Try.prog 65 := fnc_of Try.func65 rfl (by kernel_rfl)
theorem fnc66 : Fnc Try.prog 66 := fnc_of Try.func66 rfl (by kernel_rfl)
theorem fnc67 : Fnc Try.prog 67 := fnc_of Try.func67 rfl (by kernel_rfl)
theorem fnc68 : Fnc Try.prog 68 := fnc_of Try.func68 rfl (by kernel_rfl)
theorem fnc69 : Fnc Try.prog 69 := fnc_of Try.func69 rfl (by kernel_rfl)
theorem fnc70 : Fnc Try.prog 70 := fnc_of Try.func70 rfl (by kernel_rfl)
theorem fnc71 : Fnc Try.prog 71 := fnc_of Try.func71 rfl (by kernel_rfl)
theorem fnc72 : Fnc Try.prog 72 := fnc_of Try.func72 rfl (by kernel_rfl)
theorem fnc73 : Fnc Try.prog 73 := fnc_of Try.func73 rfl (by kernel_rfl)
theorem fnc74 : Fnc Try.prog 74 := fnc_of Try.func74 rfl (by kernel_rfl)
theorem fnc75 : Fnc Try.prog 75 := fnc_of Try.func75 rfl (by kernel_rfl)
theorem fnc76 : Fnc Try.prog 76 := fnc_of Try.func76 rfl (by kernel_rfl)
theorem fnc77 : Fnc Try.prog 77 := fnc_of Try.func77 rfl (by kernel_rfl)
theorem fnc78 : Fnc Try.prog 78 := fnc_of Try.func78 rfl (by kernel_rfl)
theorem fnc79 : Fnc Try.prog 79 := fnc_of Try.func79 rfl (by kernel_rfl)
theorem fnc80 : Fnc Try.prog 80 := fnc_of Try.func80 rfl (by kernel_rfl)
theorem fnc81 : Fnc Try.prog 81 := fnc_of Try.func81 rfl (by kernel_rfl)
theorem fnc82 : Fnc Try.prog 82 := fnc_of Try.func82 rfl (by kernel_rfl)
theorem fnc83 : Fnc Try.prog 83 := fnc_of Try.func83 rfl (by kernel_rfl)
theorem fnc84 : Fnc Try.prog 84 := fnc_of Try.func84 rfl (by kernel_rfl)
theorem fnc85 : Fnc Try.prog 85 := fnc_of Try.func85 rfl (by kernel_rfl)
theorem fnc86 : Fnc Try.prog 86 := fnc_of Try.func86 rfl (by kernel_rfl)
theorem fnc87 : Fnc Try.prog 87 := fnc_of Try.func87 rfl (by kernel_rfl)
theorem fnc88 : Fnc Try.prog 88 := fnc_of Try.func88 rfl (by kernel_rfl)
theorem fnc89 : Fnc Try.prog 89 := fnc_of Try.func89 rfl (by kernel_rfl)
theorem fnc90 : Fnc Try.prog 90 := fnc_of Try.func90 rfl (by kernel_rfl)
theorem fnc91 : Fnc Try.prog 91 := fnc_of Try.func91 rfl (by kernel_rfl)
theorem fnc92 : Fnc Try.prog 92 := fnc_of Try.func92 rfl (by kernel_rfl)
theorem fnc93 : Fnc Try.prog 93 := fnc_of Try.func93 rfl (by kernel_rfl)
theorem fnc94 : Fnc Try.prog 94 := fnc_of Try.func94 rfl (by kernel_rfl)
theorem fnc95 : Fnc Try.prog 95 := fnc_of Try.func95 rfl (by kernel_rfl)
theorem fnc96 : Fnc Try.prog 96 := fnc_of Try.func96 rfl (by kernel_rfl)
theorem fnc97 : Fnc Try.prog 97 := fnc_of Try.func97 rfl (by kernel_rfl)
theorem fnc98 : Fnc Try.prog 98 := fnc_of Try.func98 rfl (by kernel_rfl)
theorem fnc99 : Fnc Try.prog 99 := fnc_of Try.func99 rfl (by kernel_rfl)
theorem fnc100 : Fnc Try.prog 100 := fnc_of Try.func100 rfl (by kernel_rfl)
theorem fnc101 : Fnc Try.prog 101 := fnc_of Try.func101 rfl (by kernel_rfl)
theorem fnc102 : Fnc Try.prog 102 := fnc_of Try.func102 rfl (by kernel_rfl)
theorem fnc103 : Fnc Try.prog 103 := fnc_of Try.func103 rfl (by kernel_rfl)
theorem fnc104 : Fnc Try.prog 104 := fnc_of Try.func104 rfl (by kernel_rfl)
theorem fnc105 : Fnc Try.prog 105 := fnc_of Try.func105 rfl (by kernel_rfl)
theorem fnc106 : Fnc Try.prog 106 := fnc_of Try.func106 rfl (by kernel_rfl)
theorem fnc107 : Fnc Try.prog 107 := fnc_of Try.func107 rfl (by kernel_rfl)
theorem fnc108 : Fnc Try.prog 108 := fnc_of Try.func108 rfl (by kernel_rfl)
theorem fnc109 : Fnc Try.prog 109 := fnc_of Try.func109 rfl (by kernel_rfl)
theorem fnc110 : Fnc Try.prog 110 := fnc_of Try.func110 rfl (by kernel_rfl)
theorem fnc111 : Fnc Try.prog 111 := fnc_of Try.func111 rfl (by kernel_rfl)
theorem fnc112 : Fnc Try.prog 112 := fnc_of Try.func112 rfl (by kernel_rfl)
theorem fnc113 : Fnc Try.prog 113 := fnc_of Try.func113 rfl (by kernel_rfl)
theorem fnc114 : Fnc Try.prog 114 := fnc_of Try.func114 rfl (by kernel_rfl)
theorem fnc115 : Fnc Try.prog 115 := fnc_of Try.func115 rfl (by kernel_rfl)
theorem fnc116 : Fnc Try.prog 116 := fnc_of Try.func116 rfl (by kernel_rfl)
theorem fnc117 : Fnc Try.prog 117 := fnc_of Try.func117 rfl (by kernel_rfl)
theorem fnc118 : Fnc Try.prog 118 := fnc_of Try.func118 rfl (by kernel_rfl)
theorem fnc119 : Fnc Try.prog 119 := fnc_of Try.func119 rfl (by kernel_rfl)
theorem fnc120 : Fnc Try.prog 120 := fnc_of Try.func120 rfl (by kernel_rfl)
theorem fnc121 : Fnc Try.prog 121 := fnc_of Try.func121 rfl (by kernel_rfl)
theorem fnc122 : Fnc Try.prog 122 := fnc_of Try.func122 rfl (by kernel_rfl)
theorem fnc123 : Fnc Try.prog 123 := fnc_of Try.func123 rfl (by kernel_rfl)
theorem fnc124 : Fnc Try.prog 124 := fnc_of Try.func124 rfl (by kernel_rfl)
theorem fnc125 : Fnc Try.prog 125 := fnc_of Try.func125 rfl (by kernel_rfl)
theorem fnc126 : Fnc Try.prog 126 := fnc_of Try.func126 rfl (by kernel_rfl)
theorem fnc127 : Fnc Try.prog 127 := fnc_of Try.func127 rfl (by kernel_rfl)
theorem fnc128 : Fnc Try.prog 128 := fnc_of Try.func128 rfl (by kernel_rfl)
theorem fnc129 : Fnc Try.prog 129 := fnc_of Try.func129 rfl (by kernel_rfl)
theorem fnc130 : Fnc Try.prog 130 := fnc_of Try.func130 rfl (by kernel_rfl)
theorem fnc131 : Fnc Try.prog 131 := fnc_of Try.func131 rfl (by kernel_rfl)
theorem fnc132 : Fnc Try.prog 132 := fnc_of Try.func132 rfl (by kernel_rfl)
theorem fnc133 : Fnc Try.prog 133 := fnc_of Try.func133 rfl (by kernel_rfl)
theorem fnc134 : Fnc Try.prog 134 := fnc_of Try.func134 rfl (by kernel_rfl)
theorem fnc135 : Fnc Try.prog 135 := fnc_of Try.func135 rfl (by kernel_rfl)
theorem fnc136 : Fnc Try.prog 136 := fnc_of Try.func136 rfl (by kernel_rfl)
theorem fnc137 : Fnc Try.prog 137 := fnc_of Try.func137 rfl (by kernel_rfl)
theorem fnc138 : Fnc Try.prog 138 := fnc_of Try.func138 rfl (by kernel_rfl)
theorem fnc139 : Fnc Try.prog 139 := fnc_of Try.func139 rfl (by kernel_rfl)
theorem fnc140 : Fnc Try.prog 140 := fnc_of Try.func140 rfl (by kernel_rfl)
theorem fnc141 : Fnc Try.prog 141 := fnc_of Try.func141 rfl (by kernel_rfl)
theorem fnc142 : Fnc Try.prog 142 := fnc_of Try.func142 rfl (by kernel_rfl)
theorem fnc143 : Fnc Try.prog 143 := fnc_of Try.func143 rfl (by kernel_rfl)
theorem fnc144 : Fnc Try.prog 144 := fnc_of Try.func144 rfl (by kernel_rfl)
theorem fnc145 : Fnc Try.prog 145 := fnc_of Try.func145 rfl (by kernel_rfl)
theorem fnc146 : Fnc Try.prog 146 := fnc_of Try.func146 rfl (by kernel_rfl)
theorem fnc147 : Fnc Try.prog 147 := fnc_of Try.func147 rfl (by kernel_rfl)
theorem fnc148 : Fnc Try.prog 148 := fnc_of Try.func148 rfl (by kernel_rfl)
theorem fnc149 : Fnc Try.prog 149 := fnc_of Try.func149 rfl (by kernel_rfl)
theorem fnc150 : Fnc Try.prog 150 := fnc_of Try.func150 rfl (by kernel_rfl)
theorem fnc151 : Fnc Try.prog 151 := fnc_of Try.func151 rfl (by kernel_rfl)
theorem fnc152 : Fnc Try.prog 152 := fnc_of Try.func152 rfl (by kernel_rfl)
theorem fnc153 : Fnc Try.prog 153 := fnc_of Try.func153 rfl (by kernel_rfl)
theorem fnc154 : Fnc Try.prog 154 := fnc_of Try.func154 rfl (by kernel_rfl)
theorem fnc155 : Fnc Try.prog 155 := fnc_of Try.func155 rfl (by kernel_rfl)
theorem fnc156 : Fnc Try.prog 156 := fnc_of Try.func156 rfl (by kernel_rfl)
theorem fnc157 : Fnc Try.prog 157 := fnc_of Try.func157 rfl (by kernel_rfl)
theorem fnc158 : Fnc Try.prog 158 := fnc_of Try.func158 rfl (by kernel_rfl)
theorem fnc159 : Fnc Try.prog 159 := fnc_of Try.func159 rfl (by kernel_rfl)
theorem fnc160 : Fnc Try.prog 160 := fnc_of Try.func160 rfl (by kernel_rfl)
theorem fnc161 : Fnc Try.prog 161 := fnc_of Try.func161 rfl (by kernel_rfl)
theorem fnc163 : Fnc Try.prog 163 := fnc_of Try.func163 rfl (by kernel_rfl)
theorem fnc164 : Fnc Try.prog 164 := fnc_of Try.func164 rfl (by kernel_rfl)
theorem fnc165 : Fnc Try.prog 165 := fnc_of Try.func165 rfl (by kernel_rfl)
theorem fnc166 : Fnc Try.prog 166 := fnc_of Try.func166 rfl (by kernel_rfl)
theorem fnc167 : Fnc Try.prog 167 := fnc_of Try.func167 rfl (by kernel_rfl)
theorem fnc168 : Fnc Try.prog 168 := fnc_of Try.func168 rfl (by kernel_rfl)
theorem fnc169 : Fnc Try.prog 169 := fnc_of Try.func169 rfl (by kernel_rfl)
theorem fnc170 : Fnc Try.prog 170 := fnc_of Try.func170 rfl (by kernel_rfl)
theorem fnc171 : Fnc Try.prog 171 := fnc_of Try.func171 rfl (by kernel_rfl)
end Go.Proofs.Ytabcaiecoiejkaa

/- Facts on the types of this seat's program, written by a program of this session. -/
import Derived.Test.YtjnpfhihefchoaaDoorProg
import Derived.Test.YtjnpfhihefchoaaDoorMo
namespace Go.M
open Go
set_option maxRecDepth 20000

theorem ty0 :
    (ti Go.Proofs.Tryd.prog 1 = some ⟨1, 8, false, [.nilf], .nilf⟩) ∧
    (Program.eqGuardType Go.Proofs.Tryd.prog Go.Proofs.Tryd.prog.depth 1 = false) ∧
    (ti Go.Proofs.Tryd.prog 2 = some ⟨1, 8, false, [.i .i64 0], .i .i64 0⟩) ∧
    (Program.eqGuardType Go.Proofs.Tryd.prog Go.Proofs.Tryd.prog.depth 2 = false) ∧
    (Program.underlying Go.Proofs.Tryd.prog 2 = some (.int .i64)) ∧
    (ti Go.Proofs.Tryd.prog 3 = some ⟨1, 8, false, [.i .i64 0], .i .i64 0⟩) ∧
    (Program.eqGuardType Go.Proofs.Tryd.prog Go.Proofs.Tryd.prog.depth 3 = false) ∧
    (Program.underlying Go.Proofs.Tryd.prog 3 = some (.int .i64)) ∧
    (ti Go.Proofs.Tryd.prog 4 = some ⟨1, 1, false, [.b false], .b false⟩) ∧
    (Program.eqGuardType Go.Proofs.Tryd.prog Go.Proofs.Tryd.prog.depth 4 = false) ∧
    (Program.underlying Go.Proofs.Tryd.prog 4 = some (.bool)) ∧
    (ti Go.Proofs.Tryd.prog 5 = some ⟨1, 1, false, [.i .u8 0], .i .u8 0⟩) ∧
    (Program.eqGuardType Go.Proofs.Tryd.prog Go.Proofs.Tryd.prog.depth 5 = false) ∧
    (Program.underlying Go.Proofs.Tryd.prog 5 = some (.int .u8)) ∧
    (ti Go.Proofs.Tryd.prog 6 = some ⟨1, 1, false, [.i .u8 0], .i .u8 0⟩) ∧
    (Program.eqGuardType Go.Proofs.Tryd.prog Go.Proofs.Tryd.prog.depth 6 = false) ∧
    (Program.underlying Go.Proofs.Tryd.prog 6 = some (.int .u8)) ∧
    (ti Go.Proofs.Tryd.prog 7 = some ⟨4, 24, true, [.i .i64 0, .i .i64 0, .b false, .i .u8 0], .agg [.i .i64 0, .i .i64 0, .b false, .i .u8 0]⟩) ∧
    (places Go.Proofs.Tryd.prog 7 = some [(0, 1), (1, 1), (2, 1), (3, 1)]) ∧
    (Program.eqGuardType Go.Proofs.Tryd.prog Go.Proofs.Tryd.prog.depth 7 = false) ∧
    (Program.stoodInHeld Go.Proofs.Tryd.prog 7 = false) ∧
    (ti Go.Proofs.Tryd.prog 8 = some ⟨4, 24, true, [.i .i64 0, .i .i64 0, .b false, .i .u8 0], .agg [.i .i64 0, .i .i64 0, .b false, .i .u8 0]⟩) ∧
    (places Go.Proofs.Tryd.prog 8 = some [(0, 1), (1, 1), (2, 1), (3, 1)]) ∧
    (Program.eqGuardType Go.Proofs.Tryd.prog Go.Proofs.Tryd.prog.depth 8 = false) ∧
    (Program.stoodInHeld Go.Proofs.Tryd.prog 8 = false) ∧
    (ti Go.Proofs.Tryd.prog 9 = some ⟨1, 16, false, [.s ⟨#[]⟩], .s ⟨#[]⟩⟩) ∧
    (Program.eqGuardType Go.Proofs.Tryd.prog Go.Proofs.Tryd.prog.depth 9 = false) ∧
    (Program.underlying Go.Proofs.Tryd.prog 9 = some (.string)) ∧
    (ti Go.Proofs.Tryd.prog 10 = some ⟨1, 16, false, [.s ⟨#[]⟩], .s ⟨#[]⟩⟩) ∧
    (Program.eqGuardType Go.Proofs.Tryd.prog Go.Proofs.Tryd.prog.depth 10 = false) ∧
    (Program.underlying Go.Proofs.Tryd.prog 10 = some (.string)) ∧
    (ti Go.Proofs.Tryd.prog 11 = some ⟨1, 16, false, [.s ⟨#[]⟩], .s ⟨#[]⟩⟩) ∧
    (Program.eqGuardType Go.Proofs.Tryd.prog Go.Proofs.Tryd.prog.depth 11 = false) ∧
    (Program.underlying Go.Proofs.Tryd.prog 11 = some (.string)) ∧
    (ti Go.Proofs.Tryd.prog 12 = some ⟨1, 8, false, [.i .u64 0], .i .u64 0⟩) ∧
    (Program.eqGuardType Go.Proofs.Tryd.prog Go.Proofs.Tryd.prog.depth 12 = false) ∧
    (Program.underlying Go.Proofs.Tryd.prog 12 = some (.int .u64)) ∧
    (ti Go.Proofs.Tryd.prog 13 = some ⟨2, 24, true, [.s ⟨#[]⟩, .i .u64 0], .agg [.s ⟨#[]⟩, .i .u64 0]⟩) ∧
    (places Go.Proofs.Tryd.prog 13 = some [(0, 1), (1, 1)]) ∧
    (Program.eqGuardType Go.Proofs.Tryd.prog Go.Proofs.Tryd.prog.depth 13 = false) :=
  ⟨by kernel_rfl,
   by kernel_rfl,
   by kernel_rfl,
   by kernel_rfl,
   Go.Proofs.Tryd.underlying2,
   by kernel_rfl,
   by kernel_rfl,
   Go.Proofs.Tryd.underlying3,
   by kernel_rfl,
   by kernel_rfl,
   Go.Proofs.Tryd.underlying4,
   by kernel_rfl,
   by kernel_rfl,
   Go.Proofs.Tryd.underlying5,
   by kernel_rfl,
   by kernel_rfl,
   Go.Proofs.Tryd.underlying6,
   by kernel_rfl,
   by kernel_rfl,
   by kernel_rfl,
   by kernel_rfl,
   by kernel_rfl,
   by kernel_rfl,
   by kernel_rfl,
   by kernel_rfl,
   by kernel_rfl,
   by kernel_rfl,
   Go.Proofs.Tryd.underlying9,
   by kernel_rfl,
   by kernel_rfl,
   Go.Proofs.Tryd.underlying10,
   by kernel_rfl,
   by kernel_rfl,
   Go.Proofs.Tryd.underlying11,
   by kernel_rfl,
   by kernel_rfl,
   Go.Proofs.Tryd.underlying12,
   by kernel_rfl,
   by kernel_rfl,
   by kernel_rfl⟩

theorem ty1 :
    (Program.stoodInHeld Go.Proofs.Tryd.prog 13 = true) ∧
    (ti Go.Proofs.Tryd.prog 14 = some ⟨2, 24, true, [.s ⟨#[]⟩, .i .u64 0], .agg [.s ⟨#[]⟩, .i .u64 0]⟩) ∧
    (places Go.Proofs.Tryd.prog 14 = some [(0, 1), (1, 1)]) ∧
    (Program.eqGuardType Go.Proofs.Tryd.prog Go.Proofs.Tryd.prog.depth 14 = false) ∧
    (Program.stoodInHeld Go.Proofs.Tryd.prog 14 = true) ∧
    (ti Go.Proofs.Tryd.prog 15 = some ⟨1, 8, false, [.nilp], .nilp⟩) ∧
    (Program.eqGuardType Go.Proofs.Tryd.prog Go.Proofs.Tryd.prog.depth 15 = false) ∧
    (Program.underlying Go.Proofs.Tryd.prog 15 = some (.pointer 72)) ∧
    (ti Go.Proofs.Tryd.prog 16 = some ⟨1, 8, false, [.nilp], .nilp⟩) ∧
    (Program.eqGuardType Go.Proofs.Tryd.prog Go.Proofs.Tryd.prog.depth 16 = false) ∧
    (Program.underlying Go.Proofs.Tryd.prog 16 = some (.pointer 75)) ∧
    (ti Go.Proofs.Tryd.prog 17 = some ⟨1, 8, false, [.nilp], .nilp⟩) ∧
    (Program.eqGuardType Go.Proofs.Tryd.prog Go.Proofs.Tryd.prog.depth 17 = false) ∧
    (Program.underlying Go.Proofs.Tryd.prog 17 = some (.pointer 83)) ∧
    (ti Go.Proofs.Tryd.prog 18 = some ⟨1, 8, true, [.nilp], .agg [.nilp]⟩) ∧
    (places Go.Proofs.Tryd.prog 18 = some [(0, 1)]) ∧
    (Program.eqGuardType Go.Proofs.Tryd.prog Go.Proofs.Tryd.prog.depth 18 = false) ∧
    (Program.stoodInHeld Go.Proofs.Tryd.prog 18 = true) ∧
    (ti Go.Proofs.Tryd.prog 19 = some ⟨1, 8, true, [.nilp], .agg [.nilp]⟩) ∧
    (places Go.Proofs.Tryd.prog 19 = some [(0, 1)]) ∧
    (Program.eqGuardType Go.Proofs.Tryd.prog Go.Proofs.Tryd.prog.depth 19 = false) ∧
    (Program.stoodInHeld Go.Proofs.Tryd.prog 19 = true) ∧
    (ti Go.Proofs.Tryd.prog 21 = some ⟨1, 4, false, [.i .i32 0], .i .i32 0⟩) ∧
    (Program.eqGuardType Go.Proofs.Tryd.prog Go.Proofs.Tryd.prog.depth 21 = false) ∧
    (Program.underlying Go.Proofs.Tryd.prog 21 = some (.int .i32)) ∧
    (ti Go.Proofs.Tryd.prog 22 = some ⟨1, 24, false, [.nils], .nils⟩) ∧
    (Program.eqGuardType Go.Proofs.Tryd.prog Go.Proofs.Tryd.prog.depth 22 = false) ∧
    (Program.underlying Go.Proofs.Tryd.prog 22 = some (.slice 9)) ∧
    (ti Go.Proofs.Tryd.prog 23 = some ⟨1, 8, false, [.nilf], .nilf⟩) ∧
    (Program.eqGuardType Go.Proofs.Tryd.prog Go.Proofs.Tryd.prog.depth 23 = false) ∧
    (ti Go.Proofs.Tryd.prog 24 = some ⟨1, 8, false, [.i .i64 0], .i .i64 0⟩) ∧
    (Program.eqGuardType Go.Proofs.Tryd.prog Go.Proofs.Tryd.prog.depth 24 = false) ∧
    (Program.underlying Go.Proofs.Tryd.prog 24 = some (.int .i64)) ∧
    (ti Go.Proofs.Tryd.prog 26 = some ⟨1, 8, false, [.nilf], .nilf⟩) ∧
    (Program.eqGuardType Go.Proofs.Tryd.prog Go.Proofs.Tryd.prog.depth 26 = false) ∧
    (ti Go.Proofs.Tryd.prog 28 = some ⟨1, 8, false, [.nilf], .nilf⟩) ∧
    (Program.eqGuardType Go.Proofs.Tryd.prog Go.Proofs.Tryd.prog.depth 28 = false) ∧
    (ti Go.Proofs.Tryd.prog 29 = some ⟨1, 8, false, [.nilf], .nilf⟩) ∧
    (Program.eqGuardType Go.Proofs.Tryd.prog Go.Proofs.Tryd.prog.depth 29 = false) ∧
    (ti Go.Proofs.Tryd.prog 30 = some ⟨1, 8, false, [.nilf], .nilf⟩) :=
  ⟨by kernel_rfl,
   by kernel_rfl,
   by kernel_rfl,
   by kernel_rfl,
   by kernel_rfl,
   by kernel_rfl,
   by kernel_rfl,
   Go.Proofs.Tryd.underlying15,
   by kernel_rfl,
   by kernel_rfl,
   Go.Proofs.Tryd.underlying16,
   by kernel_rfl,
   by kernel_rfl,
   Go.Proofs.Tryd.underlying17,
   by kernel_rfl,
   by kernel_rfl,
   by kernel_rfl,
   by kernel_rfl,
   by kernel_rfl,
   by kernel_rfl,
   by kernel_rfl,
   by kernel_rfl,
   by kernel_rfl,
   by kernel_rfl,
   Go.Proofs.Tryd.underlying21,
   by kernel_rfl,
   by kernel_rfl,
   Go.Proofs.Tryd.underlying22,
   by kernel_rfl,
   by kernel_rfl,
   by kernel_rfl,
   by kernel_rfl,
   Go.Proofs.Tryd.underlying24,
   by kernel_rfl,
   by kernel_rfl,
   by kernel_rfl,
   by kernel_rfl,
   by kernel_rfl,
   by kernel_rfl,
   by kernel_rfl⟩

theorem ty2 :
    (Program.eqGuardType Go.Proofs.Tryd.prog Go.Proofs.Tryd.prog.depth 30 = false) ∧
    (ti Go.Proofs.Tryd.prog 31 = some ⟨1, 8, false, [.nilf], .nilf⟩) ∧
    (Program.eqGuardType Go.Proofs.Tryd.prog Go.Proofs.Tryd.prog.depth 31 = false) ∧
    (ti Go.Proofs.Tryd.prog 32 = some ⟨1, 8, false, [.nilf], .nilf⟩) ∧
    (Program.eqGuardType Go.Proofs.Tryd.prog Go.Proofs.Tryd.prog.depth 32 = false) ∧
    (ti Go.Proofs.Tryd.prog 33 = some ⟨1, 8, false, [.nilf], .nilf⟩) ∧
    (Program.eqGuardType Go.Proofs.Tryd.prog Go.Proofs.Tryd.prog.depth 33 = false) ∧
    (ti Go.Proofs.Tryd.prog 34 = some ⟨1, 8, false, [.nilf], .nilf⟩) ∧
    (Program.eqGuardType Go.Proofs.Tryd.prog Go.Proofs.Tryd.prog.depth 34 = false) ∧
    (ti Go.Proofs.Tryd.prog 35 = some ⟨1, 8, false, [.nilf], .nilf⟩) ∧
    (Program.eqGuardType Go.Proofs.Tryd.prog Go.Proofs.Tryd.prog.depth 35 = false) ∧
    (ti Go.Proofs.Tryd.prog 36 = some ⟨1, 8, false, [.nilf], .nilf⟩) ∧
    (Program.eqGuardType Go.Proofs.Tryd.prog Go.Proofs.Tryd.prog.depth 36 = false) ∧
    (ti Go.Proofs.Tryd.prog 37 = some ⟨1, 8, false, [.nilf], .nilf⟩) ∧
    (Program.eqGuardType Go.Proofs.Tryd.prog Go.Proofs.Tryd.prog.depth 37 = false) ∧
    (ti Go.Proofs.Tryd.prog 38 = some ⟨1, 8, false, [.nilf], .nilf⟩) ∧
    (Program.eqGuardType Go.Proofs.Tryd.prog Go.Proofs.Tryd.prog.depth 38 = false) ∧
    (ti Go.Proofs.Tryd.prog 39 = some ⟨1, 8, false, [.nilf], .nilf⟩) ∧
    (Program.eqGuardType Go.Proofs.Tryd.prog Go.Proofs.Tryd.prog.depth 39 = false) ∧
    (ti Go.Proofs.Tryd.prog 40 = some ⟨1, 8, false, [.nilf], .nilf⟩) ∧
    (Program.eqGuardType Go.Proofs.Tryd.prog Go.Proofs.Tryd.prog.depth 40 = false) ∧
    (ti Go.Proofs.Tryd.prog 41 = some ⟨1, 8, false, [.nilf], .nilf⟩) ∧
    (Program.eqGuardType Go.Proofs.Tryd.prog Go.Proofs.Tryd.prog.depth 41 = false) ∧
    (ti Go.Proofs.Tryd.prog 42 = some ⟨1, 8, false, [.nilf], .nilf⟩) ∧
    (Program.eqGuardType Go.Proofs.Tryd.prog Go.Proofs.Tryd.prog.depth 42 = false) ∧
    (ti Go.Proofs.Tryd.prog 43 = some ⟨1, 8, false, [.nilf], .nilf⟩) ∧
    (Program.eqGuardType Go.Proofs.Tryd.prog Go.Proofs.Tryd.prog.depth 43 = false) ∧
    (ti Go.Proofs.Tryd.prog 44 = some ⟨1, 8, false, [.nilp], .nilp⟩) ∧
    (Program.eqGuardType Go.Proofs.Tryd.prog Go.Proofs.Tryd.prog.depth 44 = false) ∧
    (Program.underlying Go.Proofs.Tryd.prog 44 = some (.pointer 47)) ∧
    (ti Go.Proofs.Tryd.prog 45 = some ⟨1, 24, false, [.nils], .nils⟩) ∧
    (Program.eqGuardType Go.Proofs.Tryd.prog Go.Proofs.Tryd.prog.depth 45 = false) ∧
    (Program.underlying Go.Proofs.Tryd.prog 45 = some (.slice 5)) ∧
    (ti Go.Proofs.Tryd.prog 46 = some ⟨2, 32, true, [.nilp, .nils], .agg [.nilp, .nils]⟩) ∧
    (places Go.Proofs.Tryd.prog 46 = some [(0, 1), (1, 1)]) ∧
    (Program.eqGuardType Go.Proofs.Tryd.prog Go.Proofs.Tryd.prog.depth 46 = false) ∧
    (Program.stoodInHeld Go.Proofs.Tryd.prog 46 = false) ∧
    (ti Go.Proofs.Tryd.prog 47 = some ⟨2, 32, true, [.nilp, .nils], .agg [.nilp, .nils]⟩) ∧
    (places Go.Proofs.Tryd.prog 47 = some [(0, 1), (1, 1)]) ∧
    (Program.eqGuardType Go.Proofs.Tryd.prog Go.Proofs.Tryd.prog.depth 47 = false) :=
  ⟨by kernel_rfl,
   by kernel_rfl,
   by kernel_rfl,
   by kernel_rfl,
   by kernel_rfl,
   by kernel_rfl,
   by kernel_rfl,
   by kernel_rfl,
   by kernel_rfl,
   by kernel_rfl,
   by kernel_rfl,
   by kernel_rfl,
   by kernel_rfl,
   by kernel_rfl,
   by kernel_rfl,
   by kernel_rfl,
   by kernel_rfl,
   by kernel_rfl,
   by kernel_rfl,
   by kernel_rfl,
   by kernel_rfl,
   by kernel_rfl,
   by kernel_rfl,
   by kernel_rfl,
   by kernel_rfl,
   by kernel_rfl,
   by kernel_rfl,
   by kernel_rfl,
   by kernel_rfl,
   Go.Proofs.Tryd.underlying44,
   by kernel_rfl,
   by kernel_rfl,
   Go.Proofs.Tryd.underlying45,
   by kernel_rfl,
   by kernel_rfl,
   by kernel_rfl,
   by kernel_rfl,
   by kernel_rfl,
   by kernel_rfl,
   by kernel_rfl⟩

theorem ty3 :
    (Program.stoodInHeld Go.Proofs.Tryd.prog 47 = false) ∧
    (ti Go.Proofs.Tryd.prog 48 = some ⟨1, 8, false, [.nilf], .nilf⟩) ∧
    (Program.eqGuardType Go.Proofs.Tryd.prog Go.Proofs.Tryd.prog.depth 48 = false) ∧
    (ti Go.Proofs.Tryd.prog 52 = some ⟨1, 8, false, [.nilf], .nilf⟩) ∧
    (Program.eqGuardType Go.Proofs.Tryd.prog Go.Proofs.Tryd.prog.depth 52 = false) ∧
    (ti Go.Proofs.Tryd.prog 53 = some ⟨1, 8, false, [.nilf], .nilf⟩) ∧
    (Program.eqGuardType Go.Proofs.Tryd.prog Go.Proofs.Tryd.prog.depth 53 = false) ∧
    (ti Go.Proofs.Tryd.prog 54 = some ⟨1, 8, false, [.nilf], .nilf⟩) ∧
    (Program.eqGuardType Go.Proofs.Tryd.prog Go.Proofs.Tryd.prog.depth 54 = false) ∧
    (ti Go.Proofs.Tryd.prog 55 = some ⟨1, 8, false, [.nilp], .nilp⟩) ∧
    (Program.eqGuardType Go.Proofs.Tryd.prog Go.Proofs.Tryd.prog.depth 55 = false) ∧
    (Program.underlying Go.Proofs.Tryd.prog 55 = some (.pointer 5)) ∧
    (ti Go.Proofs.Tryd.prog 57 = some ⟨1, 8, false, [.nilf], .nilf⟩) ∧
    (Program.eqGuardType Go.Proofs.Tryd.prog Go.Proofs.Tryd.prog.depth 57 = false) ∧
    (ti Go.Proofs.Tryd.prog 58 = some ⟨1, 8, false, [.nilf], .nilf⟩) ∧
    (Program.eqGuardType Go.Proofs.Tryd.prog Go.Proofs.Tryd.prog.depth 58 = false) ∧
    (ti Go.Proofs.Tryd.prog 59 = some ⟨1, 8, false, [.nilp], .nilp⟩) ∧
    (Program.eqGuardType Go.Proofs.Tryd.prog Go.Proofs.Tryd.prog.depth 59 = false) ∧
    (Program.underlying Go.Proofs.Tryd.prog 59 = some (.unsafePointer)) ∧
    (ti Go.Proofs.Tryd.prog 60 = some ⟨1, 8, false, [.nilf], .nilf⟩) ∧
    (Program.eqGuardType Go.Proofs.Tryd.prog Go.Proofs.Tryd.prog.depth 60 = false) ∧
    (ti Go.Proofs.Tryd.prog 61 = some ⟨1, 8, false, [.nilf], .nilf⟩) ∧
    (Program.eqGuardType Go.Proofs.Tryd.prog Go.Proofs.Tryd.prog.depth 61 = false) ∧
    (ti Go.Proofs.Tryd.prog 63 = some ⟨1, 8, false, [.i .u64 0], .i .u64 0⟩) ∧
    (Program.eqGuardType Go.Proofs.Tryd.prog Go.Proofs.Tryd.prog.depth 63 = false) ∧
    (Program.underlying Go.Proofs.Tryd.prog 63 = some (.int .u64)) ∧
    (ti Go.Proofs.Tryd.prog 64 = some ⟨2, 2, true, [.i .u8 0, .i .u8 0], .agg [.i .u8 0, .i .u8 0]⟩) ∧
    (places Go.Proofs.Tryd.prog 64 = some [(0, 1), (1, 1)]) ∧
    (Program.eqGuardType Go.Proofs.Tryd.prog Go.Proofs.Tryd.prog.depth 64 = false) ∧
    (Program.stoodInHeld Go.Proofs.Tryd.prog 64 = false) ∧
    (ti Go.Proofs.Tryd.prog 65 = some ⟨2, 2, true, [.i .u8 0, .i .u8 0], .agg [.i .u8 0, .i .u8 0]⟩) ∧
    (places Go.Proofs.Tryd.prog 65 = some [(0, 1), (1, 1)]) ∧
    (Program.eqGuardType Go.Proofs.Tryd.prog Go.Proofs.Tryd.prog.depth 65 = false) ∧
    (Program.stoodInHeld Go.Proofs.Tryd.prog 65 = false) ∧
    (ti Go.Proofs.Tryd.prog 67 = some ⟨1, 8, false, [.nilf], .nilf⟩) ∧
    (Program.eqGuardType Go.Proofs.Tryd.prog Go.Proofs.Tryd.prog.depth 67 = false) ∧
    (ti Go.Proofs.Tryd.prog 68 = some ⟨1, 4, false, [.i .u32 0], .i .u32 0⟩) ∧
    (Program.eqGuardType Go.Proofs.Tryd.prog Go.Proofs.Tryd.prog.depth 68 = false) ∧
    (Program.underlying Go.Proofs.Tryd.prog 68 = some (.int .u32)) ∧
    (ti Go.Proofs.Tryd.prog 70 = some ⟨1, 8, false, [.nilf], .nilf⟩) :=
  ⟨by kernel_rfl,
   by kernel_rfl,
   by kernel_rfl,
   by kernel_rfl,
   by kernel_rfl,
   by kernel_rfl,
   by kernel_rfl,
   by kernel_rfl,
   by kernel_rfl,
   by kernel_rfl,
   by kernel_rfl,
   Go.Proofs.Tryd.underlying55,
   by kernel_rfl,
   by kernel_rfl,
   by kernel_rfl,
   by kernel_rfl,
   by kernel_rfl,
   by kernel_rfl,
   Go.Proofs.Tryd.underlying59,
   by kernel_rfl,
   by kernel_rfl,
   by kernel_rfl,
   by kernel_rfl,
   by kernel_rfl,
   by kernel_rfl,
   Go.Proofs.Tryd.underlying63,
   by kernel_rfl,
   by kernel_rfl,
   by kernel_rfl,
   by kernel_rfl,
   by kernel_rfl,
   by kernel_rfl,
   by kernel_rfl,
   by kernel_rfl,
   by kernel_rfl,
   by kernel_rfl,
   by kernel_rfl,
   by kernel_rfl,
   Go.Proofs.Tryd.underlying68,
   by kernel_rfl⟩

theorem ty4 :
    (Program.eqGuardType Go.Proofs.Tryd.prog Go.Proofs.Tryd.prog.depth 70 = false) ∧
    (ti Go.Proofs.Tryd.prog 71 = some ⟨4, 40, true, [.nilp, .nilp, .nilp, .s ⟨#[]⟩], .agg [.nilp, .nilp, .nilp, .s ⟨#[]⟩]⟩) ∧
    (places Go.Proofs.Tryd.prog 71 = some [(0, 1), (1, 1), (2, 1), (3, 1)]) ∧
    (Program.eqGuardType Go.Proofs.Tryd.prog Go.Proofs.Tryd.prog.depth 71 = false) ∧
    (Program.stoodInHeld Go.Proofs.Tryd.prog 71 = true) ∧
    (ti Go.Proofs.Tryd.prog 72 = some ⟨4, 40, true, [.nilp, .nilp, .nilp, .s ⟨#[]⟩], .agg [.nilp, .nilp, .nilp, .s ⟨#[]⟩]⟩) ∧
    (places Go.Proofs.Tryd.prog 72 = some [(0, 1), (1, 1), (2, 1), (3, 1)]) ∧
    (Program.eqGuardType Go.Proofs.Tryd.prog Go.Proofs.Tryd.prog.depth 72 = false) ∧
    (Program.stoodInHeld Go.Proofs.Tryd.prog 72 = true) ∧
    (ti Go.Proofs.Tryd.prog 74 = some ⟨0, 0, true, [], .agg []⟩) ∧
    (places Go.Proofs.Tryd.prog 74 = some [(0, 0)]) ∧
    (Program.eqGuardType Go.Proofs.Tryd.prog Go.Proofs.Tryd.prog.depth 74 = false) ∧
    (Program.stoodInHeld Go.Proofs.Tryd.prog 74 = true) ∧
    (ti Go.Proofs.Tryd.prog 75 = some ⟨0, 0, true, [], .agg []⟩) ∧
    (places Go.Proofs.Tryd.prog 75 = some [(0, 0)]) ∧
    (Program.eqGuardType Go.Proofs.Tryd.prog Go.Proofs.Tryd.prog.depth 75 = false) ∧
    (Program.stoodInHeld Go.Proofs.Tryd.prog 75 = true) ∧
    (ti Go.Proofs.Tryd.prog 76 = some ⟨1, 8, false, [.nilf], .nilf⟩) ∧
    (Program.eqGuardType Go.Proofs.Tryd.prog Go.Proofs.Tryd.prog.depth 76 = false) ∧
    (ti Go.Proofs.Tryd.prog 77 = some ⟨1, 1, false, [.i .u8 0], .i .u8 0⟩) ∧
    (Program.eqGuardType Go.Proofs.Tryd.prog Go.Proofs.Tryd.prog.depth 77 = false) ∧
    (Program.underlying Go.Proofs.Tryd.prog 77 = some (.int .u8)) ∧
    (ti Go.Proofs.Tryd.prog 78 = some ⟨1, 1, false, [.i .u8 0], .i .u8 0⟩) ∧
    (Program.eqGuardType Go.Proofs.Tryd.prog Go.Proofs.Tryd.prog.depth 78 = false) ∧
    (Program.underlying Go.Proofs.Tryd.prog 78 = some (.int .u8)) ∧
    (ti Go.Proofs.Tryd.prog 79 = some ⟨1, 8, false, [.nilf], .nilf⟩) ∧
    (Program.eqGuardType Go.Proofs.Tryd.prog Go.Proofs.Tryd.prog.depth 79 = false) ∧
    (ti Go.Proofs.Tryd.prog 80 = some ⟨1, 4, false, [.i .i32 0], .i .i32 0⟩) ∧
    (Program.eqGuardType Go.Proofs.Tryd.prog Go.Proofs.Tryd.prog.depth 80 = false) ∧
    (Program.underlying Go.Proofs.Tryd.prog 80 = some (.int .i32)) ∧
    (ti Go.Proofs.Tryd.prog 81 = some ⟨1, 4, false, [.i .i32 0], .i .i32 0⟩) ∧
    (Program.eqGuardType Go.Proofs.Tryd.prog Go.Proofs.Tryd.prog.depth 81 = false) ∧
    (Program.underlying Go.Proofs.Tryd.prog 81 = some (.int .i32)) ∧
    (ti Go.Proofs.Tryd.prog 82 = some ⟨11, 48, true, [.i .u64 0, .i .u64 0, .i .u32 0, .i .u8 0, .i .u8 0, .i .u8 0, .i .u8 0, .nilf, .nilp, .i .i32 0, .i .i32 0], .agg [.i .u64 0, .i .u64 0, .i .u32 0, .i .u8 0, .i .u8 0, .i .u8 0, .i .u8 0, .nilf, .nilp, .i .i32 0, .i .i32 0]⟩) ∧
    (places Go.Proofs.Tryd.prog 82 = some [(0, 1), (1, 1), (2, 1), (3, 1), (4, 1), (5, 1), (6, 1), (7, 1), (8, 1), (9, 1), (10, 1)]) ∧
    (Program.eqGuardType Go.Proofs.Tryd.prog Go.Proofs.Tryd.prog.depth 82 = false) ∧
    (Program.stoodInHeld Go.Proofs.Tryd.prog 82 = true) ∧
    (ti Go.Proofs.Tryd.prog 83 = some ⟨11, 48, true, [.i .u64 0, .i .u64 0, .i .u32 0, .i .u8 0, .i .u8 0, .i .u8 0, .i .u8 0, .nilf, .nilp, .i .i32 0, .i .i32 0], .agg [.i .u64 0, .i .u64 0, .i .u32 0, .i .u8 0, .i .u8 0, .i .u8 0, .i .u8 0, .nilf, .nilp, .i .i32 0, .i .i32 0]⟩) ∧
    (places Go.Proofs.Tryd.prog 83 = some [(0, 1), (1, 1), (2, 1), (3, 1), (4, 1), (5, 1), (6, 1), (7, 1), (8, 1), (9, 1), (10, 1)]) ∧
    (Program.eqGuardType Go.Proofs.Tryd.prog Go.Proofs.Tryd.prog.depth 83 = false) :=
  ⟨by kernel_rfl,
   by kernel_rfl,
   by kernel_rfl,
   by kernel_rfl,
   by kernel_rfl,
   by kernel_rfl,
   by kernel_rfl,
   by kernel_rfl,
   by kernel_rfl,
   by kernel_rfl,
   by kernel_rfl,
   by kernel_rfl,
   by kernel_rfl,
   by kernel_rfl,
   by kernel_rfl,
   by kernel_rfl,
   by kernel_rfl,
   by kernel_rfl,
   by kernel_rfl,
   by kernel_rfl,
   by kernel_rfl,
   Go.Proofs.Tryd.underlying77,
   by kernel_rfl,
   by kernel_rfl,
   Go.Proofs.Tryd.underlying78,
   by kernel_rfl,
   by kernel_rfl,
   by kernel_rfl,
   by kernel_rfl,
   Go.Proofs.Tryd.underlying80,
   by kernel_rfl,
   by kernel_rfl,
   Go.Proofs.Tryd.underlying81,
   by kernel_rfl,
   by kernel_rfl,
   by kernel_rfl,
   by kernel_rfl,
   by kernel_rfl,
   by kernel_rfl,
   by kernel_rfl⟩

theorem ty5 :
    (Program.stoodInHeld Go.Proofs.Tryd.prog 83 = true) :=
  by kernel_rfl

end Go.M

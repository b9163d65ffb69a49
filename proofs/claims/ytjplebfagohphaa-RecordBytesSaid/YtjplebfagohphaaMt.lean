/- Facts on the types of this seat's program, written by a program of this session. -/
import Derived.Test.YtjplebfagohphaaProg
import Derived.Test.YtjplebfagohphaaMo
namespace Go.M
open Go
set_option maxRecDepth 20000

theorem ty0 :
    (ti Go.Proofs.Try.prog 1 = some ⟨1, 8, false, [.nilf], .nilf⟩) ∧
    (Program.eqGuardType Go.Proofs.Try.prog Go.Proofs.Try.prog.depth 1 = false) ∧
    (ti Go.Proofs.Try.prog 2 = some ⟨1, 8, false, [.i .i64 0], .i .i64 0⟩) ∧
    (Program.eqGuardType Go.Proofs.Try.prog Go.Proofs.Try.prog.depth 2 = false) ∧
    (Program.underlying Go.Proofs.Try.prog 2 = some (.int .i64)) ∧
    (ti Go.Proofs.Try.prog 3 = some ⟨1, 8, false, [.i .i64 0], .i .i64 0⟩) ∧
    (Program.eqGuardType Go.Proofs.Try.prog Go.Proofs.Try.prog.depth 3 = false) ∧
    (Program.underlying Go.Proofs.Try.prog 3 = some (.int .i64)) ∧
    (ti Go.Proofs.Try.prog 4 = some ⟨1, 1, false, [.b false], .b false⟩) ∧
    (Program.eqGuardType Go.Proofs.Try.prog Go.Proofs.Try.prog.depth 4 = false) ∧
    (Program.underlying Go.Proofs.Try.prog 4 = some (.bool)) ∧
    (ti Go.Proofs.Try.prog 5 = some ⟨1, 1, false, [.i .u8 0], .i .u8 0⟩) ∧
    (Program.eqGuardType Go.Proofs.Try.prog Go.Proofs.Try.prog.depth 5 = false) ∧
    (Program.underlying Go.Proofs.Try.prog 5 = some (.int .u8)) ∧
    (ti Go.Proofs.Try.prog 6 = some ⟨1, 1, false, [.i .u8 0], .i .u8 0⟩) ∧
    (Program.eqGuardType Go.Proofs.Try.prog Go.Proofs.Try.prog.depth 6 = false) ∧
    (Program.underlying Go.Proofs.Try.prog 6 = some (.int .u8)) ∧
    (ti Go.Proofs.Try.prog 7 = some ⟨4, 24, true, [.i .i64 0, .i .i64 0, .b false, .i .u8 0], .agg [.i .i64 0, .i .i64 0, .b false, .i .u8 0]⟩) ∧
    (places Go.Proofs.Try.prog 7 = some [(0, 1), (1, 1), (2, 1), (3, 1)]) ∧
    (Program.eqGuardType Go.Proofs.Try.prog Go.Proofs.Try.prog.depth 7 = false) ∧
    (Program.stoodInHeld Go.Proofs.Try.prog 7 = false) ∧
    (ti Go.Proofs.Try.prog 8 = some ⟨4, 24, true, [.i .i64 0, .i .i64 0, .b false, .i .u8 0], .agg [.i .i64 0, .i .i64 0, .b false, .i .u8 0]⟩) ∧
    (places Go.Proofs.Try.prog 8 = some [(0, 1), (1, 1), (2, 1), (3, 1)]) ∧
    (Program.eqGuardType Go.Proofs.Try.prog Go.Proofs.Try.prog.depth 8 = false) ∧
    (Program.stoodInHeld Go.Proofs.Try.prog 8 = false) ∧
    (ti Go.Proofs.Try.prog 9 = some ⟨1, 16, false, [.s ⟨#[]⟩], .s ⟨#[]⟩⟩) ∧
    (Program.eqGuardType Go.Proofs.Try.prog Go.Proofs.Try.prog.depth 9 = false) ∧
    (Program.underlying Go.Proofs.Try.prog 9 = some (.string)) ∧
    (ti Go.Proofs.Try.prog 10 = some ⟨1, 16, false, [.s ⟨#[]⟩], .s ⟨#[]⟩⟩) ∧
    (Program.eqGuardType Go.Proofs.Try.prog Go.Proofs.Try.prog.depth 10 = false) ∧
    (Program.underlying Go.Proofs.Try.prog 10 = some (.string)) ∧
    (ti Go.Proofs.Try.prog 11 = some ⟨1, 16, false, [.s ⟨#[]⟩], .s ⟨#[]⟩⟩) ∧
    (Program.eqGuardType Go.Proofs.Try.prog Go.Proofs.Try.prog.depth 11 = false) ∧
    (Program.underlying Go.Proofs.Try.prog 11 = some (.string)) ∧
    (ti Go.Proofs.Try.prog 12 = some ⟨1, 8, false, [.i .u64 0], .i .u64 0⟩) ∧
    (Program.eqGuardType Go.Proofs.Try.prog Go.Proofs.Try.prog.depth 12 = false) ∧
    (Program.underlying Go.Proofs.Try.prog 12 = some (.int .u64)) ∧
    (ti Go.Proofs.Try.prog 13 = some ⟨2, 24, true, [.s ⟨#[]⟩, .i .u64 0], .agg [.s ⟨#[]⟩, .i .u64 0]⟩) ∧
    (places Go.Proofs.Try.prog 13 = some [(0, 1), (1, 1)]) ∧
    (Program.eqGuardType Go.Proofs.Try.prog Go.Proofs.Try.prog.depth 13 = false) :=
  ⟨by kernel_rfl,
   by kernel_rfl,
   by kernel_rfl,
   by kernel_rfl,
   Go.Proofs.Try.underlying2,
   by kernel_rfl,
   by kernel_rfl,
   Go.Proofs.Try.underlying3,
   by kernel_rfl,
   by kernel_rfl,
   Go.Proofs.Try.underlying4,
   by kernel_rfl,
   by kernel_rfl,
   Go.Proofs.Try.underlying5,
   by kernel_rfl,
   by kernel_rfl,
   Go.Proofs.Try.underlying6,
   by kernel_rfl,
   by kernel_rfl,
   by kernel_rfl,
   by kernel_rfl,
   by kernel_rfl,
   by kernel_rfl,
   by kernel_rfl,
   by kernel_rfl,
   by kernel_rfl,
   by kernel_rfl,
   Go.Proofs.Try.underlying9,
   by kernel_rfl,
   by kernel_rfl,
   Go.Proofs.Try.underlying10,
   by kernel_rfl,
   by kernel_rfl,
   Go.Proofs.Try.underlying11,
   by kernel_rfl,
   by kernel_rfl,
   Go.Proofs.Try.underlying12,
   by kernel_rfl,
   by kernel_rfl,
   by kernel_rfl⟩

theorem ty1 :
    (Program.stoodInHeld Go.Proofs.Try.prog 13 = true) ∧
    (ti Go.Proofs.Try.prog 14 = some ⟨2, 24, true, [.s ⟨#[]⟩, .i .u64 0], .agg [.s ⟨#[]⟩, .i .u64 0]⟩) ∧
    (places Go.Proofs.Try.prog 14 = some [(0, 1), (1, 1)]) ∧
    (Program.eqGuardType Go.Proofs.Try.prog Go.Proofs.Try.prog.depth 14 = false) ∧
    (Program.stoodInHeld Go.Proofs.Try.prog 14 = true) ∧
    (ti Go.Proofs.Try.prog 15 = some ⟨1, 8, false, [.nilp], .nilp⟩) ∧
    (Program.eqGuardType Go.Proofs.Try.prog Go.Proofs.Try.prog.depth 15 = false) ∧
    (Program.underlying Go.Proofs.Try.prog 15 = some (.pointer 180)) ∧
    (ti Go.Proofs.Try.prog 16 = some ⟨1, 8, false, [.nilp], .nilp⟩) ∧
    (Program.eqGuardType Go.Proofs.Try.prog Go.Proofs.Try.prog.depth 16 = false) ∧
    (Program.underlying Go.Proofs.Try.prog 16 = some (.pointer 183)) ∧
    (ti Go.Proofs.Try.prog 17 = some ⟨1, 8, false, [.nilp], .nilp⟩) ∧
    (Program.eqGuardType Go.Proofs.Try.prog Go.Proofs.Try.prog.depth 17 = false) ∧
    (Program.underlying Go.Proofs.Try.prog 17 = some (.pointer 190)) ∧
    (ti Go.Proofs.Try.prog 18 = some ⟨1, 8, true, [.nilp], .agg [.nilp]⟩) ∧
    (places Go.Proofs.Try.prog 18 = some [(0, 1)]) ∧
    (Program.eqGuardType Go.Proofs.Try.prog Go.Proofs.Try.prog.depth 18 = false) ∧
    (Program.stoodInHeld Go.Proofs.Try.prog 18 = true) ∧
    (ti Go.Proofs.Try.prog 19 = some ⟨1, 8, true, [.nilp], .agg [.nilp]⟩) ∧
    (places Go.Proofs.Try.prog 19 = some [(0, 1)]) ∧
    (Program.eqGuardType Go.Proofs.Try.prog Go.Proofs.Try.prog.depth 19 = false) ∧
    (Program.stoodInHeld Go.Proofs.Try.prog 19 = true) ∧
    (ti Go.Proofs.Try.prog 21 = some ⟨1, 4, false, [.i .i32 0], .i .i32 0⟩) ∧
    (Program.eqGuardType Go.Proofs.Try.prog Go.Proofs.Try.prog.depth 21 = false) ∧
    (Program.underlying Go.Proofs.Try.prog 21 = some (.int .i32)) ∧
    (ti Go.Proofs.Try.prog 22 = some ⟨1, 8, false, [.i .u64 0], .i .u64 0⟩) ∧
    (Program.eqGuardType Go.Proofs.Try.prog Go.Proofs.Try.prog.depth 22 = false) ∧
    (Program.underlying Go.Proofs.Try.prog 22 = some (.int .u64)) ∧
    (ti Go.Proofs.Try.prog 23 = some ⟨1, 24, false, [.nils], .nils⟩) ∧
    (Program.eqGuardType Go.Proofs.Try.prog Go.Proofs.Try.prog.depth 23 = false) ∧
    (Program.underlying Go.Proofs.Try.prog 23 = some (.slice 108)) ∧
    (ti Go.Proofs.Try.prog 24 = some ⟨6, 56, true, [.i .u64 0, .i .u64 0, .b false, .b false, .i .i64 0, .nils], .agg [.i .u64 0, .i .u64 0, .b false, .b false, .i .i64 0, .nils]⟩) ∧
    (places Go.Proofs.Try.prog 24 = some [(0, 1), (1, 1), (2, 1), (3, 1), (4, 1), (5, 1)]) ∧
    (Program.eqGuardType Go.Proofs.Try.prog Go.Proofs.Try.prog.depth 24 = false) ∧
    (Program.stoodInHeld Go.Proofs.Try.prog 24 = false) ∧
    (ti Go.Proofs.Try.prog 25 = some ⟨6, 56, true, [.i .u64 0, .i .u64 0, .b false, .b false, .i .i64 0, .nils], .agg [.i .u64 0, .i .u64 0, .b false, .b false, .i .i64 0, .nils]⟩) ∧
    (places Go.Proofs.Try.prog 25 = some [(0, 1), (1, 1), (2, 1), (3, 1), (4, 1), (5, 1)]) ∧
    (Program.eqGuardType Go.Proofs.Try.prog Go.Proofs.Try.prog.depth 25 = false) ∧
    (Program.stoodInHeld Go.Proofs.Try.prog 25 = false) ∧
    (ti Go.Proofs.Try.prog 26 = some ⟨1, 8, false, [.nilf], .nilf⟩) :=
  ⟨by kernel_rfl,
   by kernel_rfl,
   by kernel_rfl,
   by kernel_rfl,
   by kernel_rfl,
   by kernel_rfl,
   by kernel_rfl,
   Go.Proofs.Try.underlying15,
   by kernel_rfl,
   by kernel_rfl,
   Go.Proofs.Try.underlying16,
   by kernel_rfl,
   by kernel_rfl,
   Go.Proofs.Try.underlying17,
   by kernel_rfl,
   by kernel_rfl,
   by kernel_rfl,
   by kernel_rfl,
   by kernel_rfl,
   by kernel_rfl,
   by kernel_rfl,
   by kernel_rfl,
   by kernel_rfl,
   by kernel_rfl,
   Go.Proofs.Try.underlying21,
   by kernel_rfl,
   by kernel_rfl,
   Go.Proofs.Try.underlying22,
   by kernel_rfl,
   by kernel_rfl,
   Go.Proofs.Try.underlying23,
   by kernel_rfl,
   by kernel_rfl,
   by kernel_rfl,
   by kernel_rfl,
   by kernel_rfl,
   by kernel_rfl,
   by kernel_rfl,
   by kernel_rfl,
   by kernel_rfl⟩

theorem ty2 :
    (Program.eqGuardType Go.Proofs.Try.prog Go.Proofs.Try.prog.depth 26 = false) ∧
    (ti Go.Proofs.Try.prog 27 = some ⟨1, 8, false, [.i .i64 0], .i .i64 0⟩) ∧
    (Program.eqGuardType Go.Proofs.Try.prog Go.Proofs.Try.prog.depth 27 = false) ∧
    (Program.underlying Go.Proofs.Try.prog 27 = some (.int .i64)) ∧
    (ti Go.Proofs.Try.prog 29 = some ⟨1, 8, false, [.nilf], .nilf⟩) ∧
    (Program.eqGuardType Go.Proofs.Try.prog Go.Proofs.Try.prog.depth 29 = false) ∧
    (ti Go.Proofs.Try.prog 31 = some ⟨1, 8, false, [.nilf], .nilf⟩) ∧
    (Program.eqGuardType Go.Proofs.Try.prog Go.Proofs.Try.prog.depth 31 = false) ∧
    (ti Go.Proofs.Try.prog 32 = some ⟨1, 8, false, [.nilf], .nilf⟩) ∧
    (Program.eqGuardType Go.Proofs.Try.prog Go.Proofs.Try.prog.depth 32 = false) ∧
    (ti Go.Proofs.Try.prog 33 = some ⟨1, 8, false, [.nilf], .nilf⟩) ∧
    (Program.eqGuardType Go.Proofs.Try.prog Go.Proofs.Try.prog.depth 33 = false) ∧
    (ti Go.Proofs.Try.prog 34 = some ⟨1, 8, false, [.nilf], .nilf⟩) ∧
    (Program.eqGuardType Go.Proofs.Try.prog Go.Proofs.Try.prog.depth 34 = false) ∧
    (ti Go.Proofs.Try.prog 35 = some ⟨1, 8, false, [.nilf], .nilf⟩) ∧
    (Program.eqGuardType Go.Proofs.Try.prog Go.Proofs.Try.prog.depth 35 = false) ∧
    (ti Go.Proofs.Try.prog 36 = some ⟨1, 8, false, [.nilf], .nilf⟩) ∧
    (Program.eqGuardType Go.Proofs.Try.prog Go.Proofs.Try.prog.depth 36 = false) ∧
    (ti Go.Proofs.Try.prog 37 = some ⟨1, 8, false, [.nilf], .nilf⟩) ∧
    (Program.eqGuardType Go.Proofs.Try.prog Go.Proofs.Try.prog.depth 37 = false) ∧
    (ti Go.Proofs.Try.prog 38 = some ⟨1, 8, false, [.nilf], .nilf⟩) ∧
    (Program.eqGuardType Go.Proofs.Try.prog Go.Proofs.Try.prog.depth 38 = false) ∧
    (ti Go.Proofs.Try.prog 39 = some ⟨1, 8, false, [.nilp], .nilp⟩) ∧
    (Program.eqGuardType Go.Proofs.Try.prog Go.Proofs.Try.prog.depth 39 = false) ∧
    (Program.underlying Go.Proofs.Try.prog 39 = some (.pointer 134)) ∧
    (ti Go.Proofs.Try.prog 41 = some ⟨1, 8, false, [.nilf], .nilf⟩) ∧
    (Program.eqGuardType Go.Proofs.Try.prog Go.Proofs.Try.prog.depth 41 = false) ∧
    (ti Go.Proofs.Try.prog 42 = some ⟨1, 8, false, [.nilp], .nilp⟩) ∧
    (Program.eqGuardType Go.Proofs.Try.prog Go.Proofs.Try.prog.depth 42 = false) ∧
    (Program.underlying Go.Proofs.Try.prog 42 = some (.pointer 128)) ∧
    (ti Go.Proofs.Try.prog 44 = some ⟨1, 8, false, [.nilf], .nilf⟩) ∧
    (Program.eqGuardType Go.Proofs.Try.prog Go.Proofs.Try.prog.depth 44 = false) ∧
    (ti Go.Proofs.Try.prog 45 = some ⟨1, 24, false, [.nils], .nils⟩) ∧
    (Program.eqGuardType Go.Proofs.Try.prog Go.Proofs.Try.prog.depth 45 = false) ∧
    (Program.underlying Go.Proofs.Try.prog 45 = some (.slice 92)) ∧
    (ti Go.Proofs.Try.prog 47 = some ⟨1, 8, false, [.nilf], .nilf⟩) ∧
    (Program.eqGuardType Go.Proofs.Try.prog Go.Proofs.Try.prog.depth 47 = false) ∧
    (ti Go.Proofs.Try.prog 48 = some ⟨1, 8, false, [.nilf], .nilf⟩) ∧
    (Program.eqGuardType Go.Proofs.Try.prog Go.Proofs.Try.prog.depth 48 = false) ∧
    (ti Go.Proofs.Try.prog 49 = some ⟨1, 8, false, [.nilf], .nilf⟩) :=
  ⟨by kernel_rfl,
   by kernel_rfl,
   by kernel_rfl,
   Go.Proofs.Try.underlying27,
   by kernel_rfl,
   by kernel_rfl,
   by kernel_rfl,
   by kernel_rfl,
   by kernel_rfl,
   by kernel_rfl,
   by kernel_rfl,
   by kernel_rfl,
   by kernel_rfl,
   by kernel_rfl,
   by kernel_rfl,
   by kernel_rfl,
   by kernel_rfl,
   by kernel_rfl,
   by kernel_rfl,
   by kernel_rfl,
   by kernel_rfl,
   by kernel_rfl,
   by kernel_rfl,
   by kernel_rfl,
   Go.Proofs.Try.underlying39,
   by kernel_rfl,
   by kernel_rfl,
   by kernel_rfl,
   by kernel_rfl,
   Go.Proofs.Try.underlying42,
   by kernel_rfl,
   by kernel_rfl,
   by kernel_rfl,
   by kernel_rfl,
   Go.Proofs.Try.underlying45,
   by kernel_rfl,
   by kernel_rfl,
   by kernel_rfl,
   by kernel_rfl,
   by kernel_rfl⟩

theorem ty3 :
    (Program.eqGuardType Go.Proofs.Try.prog Go.Proofs.Try.prog.depth 49 = false) ∧
    (ti Go.Proofs.Try.prog 50 = some ⟨1, 8, false, [.nilf], .nilf⟩) ∧
    (Program.eqGuardType Go.Proofs.Try.prog Go.Proofs.Try.prog.depth 50 = false) ∧
    (ti Go.Proofs.Try.prog 51 = some ⟨1, 24, false, [.nils], .nils⟩) ∧
    (Program.eqGuardType Go.Proofs.Try.prog Go.Proofs.Try.prog.depth 51 = false) ∧
    (Program.underlying Go.Proofs.Try.prog 51 = some (.slice 121)) ∧
    (ti Go.Proofs.Try.prog 52 = some ⟨1, 24, false, [.nils], .nils⟩) ∧
    (Program.eqGuardType Go.Proofs.Try.prog Go.Proofs.Try.prog.depth 52 = false) ∧
    (Program.underlying Go.Proofs.Try.prog 52 = some (.slice 3)) ∧
    (ti Go.Proofs.Try.prog 54 = some ⟨1, 8, false, [.nilf], .nilf⟩) ∧
    (Program.eqGuardType Go.Proofs.Try.prog Go.Proofs.Try.prog.depth 54 = false) ∧
    (ti Go.Proofs.Try.prog 55 = some ⟨1, 8, false, [.nilf], .nilf⟩) ∧
    (Program.eqGuardType Go.Proofs.Try.prog Go.Proofs.Try.prog.depth 55 = false) ∧
    (ti Go.Proofs.Try.prog 56 = some ⟨1, 8, false, [.nilf], .nilf⟩) ∧
    (Program.eqGuardType Go.Proofs.Try.prog Go.Proofs.Try.prog.depth 56 = false) ∧
    (ti Go.Proofs.Try.prog 57 = some ⟨1, 24, false, [.nils], .nils⟩) ∧
    (Program.eqGuardType Go.Proofs.Try.prog Go.Proofs.Try.prog.depth 57 = false) ∧
    (Program.underlying Go.Proofs.Try.prog 57 = some (.slice 9)) ∧
    (ti Go.Proofs.Try.prog 58 = some ⟨1, 8, false, [.nilf], .nilf⟩) ∧
    (Program.eqGuardType Go.Proofs.Try.prog Go.Proofs.Try.prog.depth 58 = false) ∧
    (ti Go.Proofs.Try.prog 59 = some ⟨1, 8, false, [.nilp], .nilp⟩) ∧
    (Program.eqGuardType Go.Proofs.Try.prog Go.Proofs.Try.prog.depth 59 = false) ∧
    (Program.underlying Go.Proofs.Try.prog 59 = some (.pointer 84)) ∧
    (ti Go.Proofs.Try.prog 61 = some ⟨1, 8, false, [.nilf], .nilf⟩) ∧
    (Program.eqGuardType Go.Proofs.Try.prog Go.Proofs.Try.prog.depth 61 = false) ∧
    (ti Go.Proofs.Try.prog 62 = some ⟨1, 8, false, [.nilp], .nilp⟩) ∧
    (Program.eqGuardType Go.Proofs.Try.prog Go.Proofs.Try.prog.depth 62 = false) ∧
    (Program.underlying Go.Proofs.Try.prog 62 = some (.pointer 67)) ∧
    (ti Go.Proofs.Try.prog 64 = some ⟨1, 8, false, [.nilf], .nilf⟩) ∧
    (Program.eqGuardType Go.Proofs.Try.prog Go.Proofs.Try.prog.depth 64 = false) ∧
    (ti Go.Proofs.Try.prog 65 = some ⟨1, 8, false, [.nilf], .nilf⟩) ∧
    (Program.eqGuardType Go.Proofs.Try.prog Go.Proofs.Try.prog.depth 65 = false) ∧
    (ti Go.Proofs.Try.prog 66 = some ⟨4, 32, true, [.nilp, .i .i64 0, .i .u64 0, .i .i64 0], .agg [.nilp, .i .i64 0, .i .u64 0, .i .i64 0]⟩) ∧
    (places Go.Proofs.Try.prog 66 = some [(0, 1), (1, 1), (2, 1), (3, 1)]) ∧
    (Program.eqGuardType Go.Proofs.Try.prog Go.Proofs.Try.prog.depth 66 = false) ∧
    (Program.stoodInHeld Go.Proofs.Try.prog 66 = false) ∧
    (ti Go.Proofs.Try.prog 67 = some ⟨4, 32, true, [.nilp, .i .i64 0, .i .u64 0, .i .i64 0], .agg [.nilp, .i .i64 0, .i .u64 0, .i .i64 0]⟩) ∧
    (places Go.Proofs.Try.prog 67 = some [(0, 1), (1, 1), (2, 1), (3, 1)]) ∧
    (Program.eqGuardType Go.Proofs.Try.prog Go.Proofs.Try.prog.depth 67 = false) ∧
    (Program.stoodInHeld Go.Proofs.Try.prog 67 = false) :=
  ⟨by kernel_rfl,
   by kernel_rfl,
   by kernel_rfl,
   by kernel_rfl,
   by kernel_rfl,
   Go.Proofs.Try.underlying51,
   by kernel_rfl,
   by kernel_rfl,
   Go.Proofs.Try.underlying52,
   by kernel_rfl,
   by kernel_rfl,
   by kernel_rfl,
   by kernel_rfl,
   by kernel_rfl,
   by kernel_rfl,
   by kernel_rfl,
   by kernel_rfl,
   Go.Proofs.Try.underlying57,
   by kernel_rfl,
   by kernel_rfl,
   by kernel_rfl,
   by kernel_rfl,
   Go.Proofs.Try.underlying59,
   by kernel_rfl,
   by kernel_rfl,
   by kernel_rfl,
   by kernel_rfl,
   Go.Proofs.Try.underlying62,
   by kernel_rfl,
   by kernel_rfl,
   by kernel_rfl,
   by kernel_rfl,
   by kernel_rfl,
   by kernel_rfl,
   by kernel_rfl,
   by kernel_rfl,
   by kernel_rfl,
   by kernel_rfl,
   by kernel_rfl,
   by kernel_rfl⟩

theorem ty4 :
    (ti Go.Proofs.Try.prog 68 = some ⟨1, 8, false, [.nilf], .nilf⟩) ∧
    (Program.eqGuardType Go.Proofs.Try.prog Go.Proofs.Try.prog.depth 68 = false) ∧
    (ti Go.Proofs.Try.prog 69 = some ⟨1, 24, false, [.nils], .nils⟩) ∧
    (Program.eqGuardType Go.Proofs.Try.prog Go.Proofs.Try.prog.depth 69 = false) ∧
    (Program.underlying Go.Proofs.Try.prog 69 = some (.slice 51)) ∧
    (ti Go.Proofs.Try.prog 70 = some ⟨1, 8, false, [.nilf], .nilf⟩) ∧
    (Program.eqGuardType Go.Proofs.Try.prog Go.Proofs.Try.prog.depth 70 = false) ∧
    (ti Go.Proofs.Try.prog 71 = some ⟨1, 8, false, [.nilf], .nilf⟩) ∧
    (Program.eqGuardType Go.Proofs.Try.prog Go.Proofs.Try.prog.depth 71 = false) ∧
    (ti Go.Proofs.Try.prog 72 = some ⟨1, 8, false, [.nilf], .nilf⟩) ∧
    (Program.eqGuardType Go.Proofs.Try.prog Go.Proofs.Try.prog.depth 72 = false) ∧
    (ti Go.Proofs.Try.prog 73 = some ⟨1, 8, false, [.nilf], .nilf⟩) ∧
    (Program.eqGuardType Go.Proofs.Try.prog Go.Proofs.Try.prog.depth 73 = false) ∧
    (ti Go.Proofs.Try.prog 74 = some ⟨1, 8, false, [.nilf], .nilf⟩) ∧
    (Program.eqGuardType Go.Proofs.Try.prog Go.Proofs.Try.prog.depth 74 = false) ∧
    (ti Go.Proofs.Try.prog 75 = some ⟨1, 24, false, [.nils], .nils⟩) ∧
    (Program.eqGuardType Go.Proofs.Try.prog Go.Proofs.Try.prog.depth 75 = false) ∧
    (Program.underlying Go.Proofs.Try.prog 75 = some (.slice 81)) ∧
    (ti Go.Proofs.Try.prog 76 = some ⟨1, 8, false, [.nilf], .nilf⟩) ∧
    (Program.eqGuardType Go.Proofs.Try.prog Go.Proofs.Try.prog.depth 76 = false) ∧
    (ti Go.Proofs.Try.prog 78 = some ⟨1, 8, false, [.nilf], .nilf⟩) ∧
    (Program.eqGuardType Go.Proofs.Try.prog Go.Proofs.Try.prog.depth 78 = false) ∧
    (ti Go.Proofs.Try.prog 79 = some ⟨1, 8, false, [.nilf], .nilf⟩) ∧
    (Program.eqGuardType Go.Proofs.Try.prog Go.Proofs.Try.prog.depth 79 = false) ∧
    (ti Go.Proofs.Try.prog 80 = some ⟨6, 56, true, [.i .i64 0, .i .i64 0, .i .u64 0, .nils, .b false, .b false], .agg [.i .i64 0, .i .i64 0, .i .u64 0, .nils, .b false, .b false]⟩) ∧
    (places Go.Proofs.Try.prog 80 = some [(0, 1), (1, 1), (2, 1), (3, 1), (4, 1), (5, 1)]) ∧
    (Program.eqGuardType Go.Proofs.Try.prog Go.Proofs.Try.prog.depth 80 = false) ∧
    (Program.stoodInHeld Go.Proofs.Try.prog 80 = false) ∧
    (ti Go.Proofs.Try.prog 81 = some ⟨6, 56, true, [.i .i64 0, .i .i64 0, .i .u64 0, .nils, .b false, .b false], .agg [.i .i64 0, .i .i64 0, .i .u64 0, .nils, .b false, .b false]⟩) ∧
    (places Go.Proofs.Try.prog 81 = some [(0, 1), (1, 1), (2, 1), (3, 1), (4, 1), (5, 1)]) ∧
    (Program.eqGuardType Go.Proofs.Try.prog Go.Proofs.Try.prog.depth 81 = false) ∧
    (Program.stoodInHeld Go.Proofs.Try.prog 81 = false) ∧
    (ti Go.Proofs.Try.prog 82 = some ⟨1, 24, false, [.nils], .nils⟩) ∧
    (Program.eqGuardType Go.Proofs.Try.prog Go.Proofs.Try.prog.depth 82 = false) ∧
    (Program.underlying Go.Proofs.Try.prog 82 = some (.slice 169)) ∧
    (ti Go.Proofs.Try.prog 83 = some ⟨5, 72, true, [.nils, .nils, .i .i64 0, .i .i64 0, .b false], .agg [.nils, .nils, .i .i64 0, .i .i64 0, .b false]⟩) ∧
    (places Go.Proofs.Try.prog 83 = some [(0, 1), (1, 1), (2, 1), (3, 1), (4, 1)]) ∧
    (Program.eqGuardType Go.Proofs.Try.prog Go.Proofs.Try.prog.depth 83 = false) ∧
    (Program.stoodInHeld Go.Proofs.Try.prog 83 = false) ∧
    (ti Go.Proofs.Try.prog 84 = some ⟨5, 72, true, [.nils, .nils, .i .i64 0, .i .i64 0, .b false], .agg [.nils, .nils, .i .i64 0, .i .i64 0, .b false]⟩) :=
  ⟨by kernel_rfl,
   by kernel_rfl,
   by kernel_rfl,
   by kernel_rfl,
   Go.Proofs.Try.underlying69,
   by kernel_rfl,
   by kernel_rfl,
   by kernel_rfl,
   by kernel_rfl,
   by kernel_rfl,
   by kernel_rfl,
   by kernel_rfl,
   by kernel_rfl,
   by kernel_rfl,
   by kernel_rfl,
   by kernel_rfl,
   by kernel_rfl,
   Go.Proofs.Try.underlying75,
   by kernel_rfl,
   by kernel_rfl,
   by kernel_rfl,
   by kernel_rfl,
   by kernel_rfl,
   by kernel_rfl,
   by kernel_rfl,
   by kernel_rfl,
   by kernel_rfl,
   by kernel_rfl,
   by kernel_rfl,
   by kernel_rfl,
   by kernel_rfl,
   by kernel_rfl,
   by kernel_rfl,
   by kernel_rfl,
   Go.Proofs.Try.underlying82,
   by kernel_rfl,
   by kernel_rfl,
   by kernel_rfl,
   by kernel_rfl,
   by kernel_rfl⟩

theorem ty5 :
    (places Go.Proofs.Try.prog 84 = some [(0, 1), (1, 1), (2, 1), (3, 1), (4, 1)]) ∧
    (Program.eqGuardType Go.Proofs.Try.prog Go.Proofs.Try.prog.depth 84 = false) ∧
    (Program.stoodInHeld Go.Proofs.Try.prog 84 = false) ∧
    (ti Go.Proofs.Try.prog 85 = some ⟨1, 8, false, [.nilf], .nilf⟩) ∧
    (Program.eqGuardType Go.Proofs.Try.prog Go.Proofs.Try.prog.depth 85 = false) ∧
    (ti Go.Proofs.Try.prog 86 = some ⟨2, 16, true, [.i .u64 0, .i .i64 0], .agg [.i .u64 0, .i .i64 0]⟩) ∧
    (places Go.Proofs.Try.prog 86 = some [(0, 1), (1, 1)]) ∧
    (Program.eqGuardType Go.Proofs.Try.prog Go.Proofs.Try.prog.depth 86 = false) ∧
    (Program.stoodInHeld Go.Proofs.Try.prog 86 = false) ∧
    (ti Go.Proofs.Try.prog 87 = some ⟨2, 16, true, [.i .u64 0, .i .i64 0], .agg [.i .u64 0, .i .i64 0]⟩) ∧
    (places Go.Proofs.Try.prog 87 = some [(0, 1), (1, 1)]) ∧
    (Program.eqGuardType Go.Proofs.Try.prog Go.Proofs.Try.prog.depth 87 = false) ∧
    (Program.stoodInHeld Go.Proofs.Try.prog 87 = false) ∧
    (ti Go.Proofs.Try.prog 88 = some ⟨1, 8, false, [.nilf], .nilf⟩) ∧
    (Program.eqGuardType Go.Proofs.Try.prog Go.Proofs.Try.prog.depth 88 = false) ∧
    (ti Go.Proofs.Try.prog 89 = some ⟨1, 8, false, [.nilf], .nilf⟩) ∧
    (Program.eqGuardType Go.Proofs.Try.prog Go.Proofs.Try.prog.depth 89 = false) ∧
    (ti Go.Proofs.Try.prog 90 = some ⟨1, 8, false, [.nilf], .nilf⟩) ∧
    (Program.eqGuardType Go.Proofs.Try.prog Go.Proofs.Try.prog.depth 90 = false) ∧
    (ti Go.Proofs.Try.prog 91 = some ⟨8, 88, true, [.i .i64 0, .i .u64 0, .i .u64 0, .b false, .b false, .i .i64 0, .nils, .nils], .agg [.i .i64 0, .i .u64 0, .i .u64 0, .b false, .b false, .i .i64 0, .nils, .nils]⟩) ∧
    (places Go.Proofs.Try.prog 91 = some [(0, 1), (1, 6), (7, 1)]) ∧
    (Program.eqGuardType Go.Proofs.Try.prog Go.Proofs.Try.prog.depth 91 = false) ∧
    (Program.stoodInHeld Go.Proofs.Try.prog 91 = false) ∧
    (ti Go.Proofs.Try.prog 92 = some ⟨8, 88, true, [.i .i64 0, .i .u64 0, .i .u64 0, .b false, .b false, .i .i64 0, .nils, .nils], .agg [.i .i64 0, .i .u64 0, .i .u64 0, .b false, .b false, .i .i64 0, .nils, .nils]⟩) ∧
    (places Go.Proofs.Try.prog 92 = some [(0, 1), (1, 6), (7, 1)]) ∧
    (Program.eqGuardType Go.Proofs.Try.prog Go.Proofs.Try.prog.depth 92 = false) ∧
    (Program.stoodInHeld Go.Proofs.Try.prog 92 = false) ∧
    (ti Go.Proofs.Try.prog 93 = some ⟨1, 8, false, [.nilf], .nilf⟩) ∧
    (Program.eqGuardType Go.Proofs.Try.prog Go.Proofs.Try.prog.depth 93 = false) ∧
    (ti Go.Proofs.Try.prog 94 = some ⟨1, 8, false, [.nilf], .nilf⟩) ∧
    (Program.eqGuardType Go.Proofs.Try.prog Go.Proofs.Try.prog.depth 94 = false) ∧
    (ti Go.Proofs.Try.prog 95 = some ⟨1, 8, false, [.nilp], .nilp⟩) ∧
    (Program.eqGuardType Go.Proofs.Try.prog Go.Proofs.Try.prog.depth 95 = false) ∧
    (Program.underlying Go.Proofs.Try.prog 95 = some (.pointer 98)) ∧
    (ti Go.Proofs.Try.prog 96 = some ⟨1, 24, false, [.nils], .nils⟩) ∧
    (Program.eqGuardType Go.Proofs.Try.prog Go.Proofs.Try.prog.depth 96 = false) ∧
    (Program.underlying Go.Proofs.Try.prog 96 = some (.slice 5)) ∧
    (ti Go.Proofs.Try.prog 97 = some ⟨2, 32, true, [.nilp, .nils], .agg [.nilp, .nils]⟩) ∧
    (places Go.Proofs.Try.prog 97 = some [(0, 1), (1, 1)]) ∧
    (Program.eqGuardType Go.Proofs.Try.prog Go.Proofs.Try.prog.depth 97 = false) :=
  ⟨by kernel_rfl,
   by kernel_rfl,
   by kernel_rfl,
   by kernel_rfl,
   by kernel_rfl,
   by kernel_rfl,
   by kernel_rfl,
   by kernel_rfl,
   by kernel_rfl,
   by kernel_rfl,
   by kernel_rfl,
   by kernel_rfl,
   by kernel_rfl,
   by kernel_rfl,
   by kernel_rfl,
   by kernel_rfl,
   by kernel_rfl,
   by kernel_rfl,
   by kernel_rfl,
   by kernel_rfl,
   by kernel_rfl,
   by kernel_rfl,
   by kernel_rfl,
   by kernel_rfl,
   by kernel_rfl,
   by kernel_rfl,
   by kernel_rfl,
   by kernel_rfl,
   by kernel_rfl,
   by kernel_rfl,
   by kernel_rfl,
   by kernel_rfl,
   by kernel_rfl,
   Go.Proofs.Try.underlying95,
   by kernel_rfl,
   by kernel_rfl,
   Go.Proofs.Try.underlying96,
   by kernel_rfl,
   by kernel_rfl,
   by kernel_rfl⟩

theorem ty6 :
    (Program.stoodInHeld Go.Proofs.Try.prog 97 = false) ∧
    (ti Go.Proofs.Try.prog 98 = some ⟨2, 32, true, [.nilp, .nils], .agg [.nilp, .nils]⟩) ∧
    (places Go.Proofs.Try.prog 98 = some [(0, 1), (1, 1)]) ∧
    (Program.eqGuardType Go.Proofs.Try.prog Go.Proofs.Try.prog.depth 98 = false) ∧
    (Program.stoodInHeld Go.Proofs.Try.prog 98 = false) ∧
    (ti Go.Proofs.Try.prog 99 = some ⟨1, 8, false, [.nilf], .nilf⟩) ∧
    (Program.eqGuardType Go.Proofs.Try.prog Go.Proofs.Try.prog.depth 99 = false) ∧
    (ti Go.Proofs.Try.prog 103 = some ⟨1, 8, false, [.nilf], .nilf⟩) ∧
    (Program.eqGuardType Go.Proofs.Try.prog Go.Proofs.Try.prog.depth 103 = false) ∧
    (ti Go.Proofs.Try.prog 104 = some ⟨1, 8, false, [.nilf], .nilf⟩) ∧
    (Program.eqGuardType Go.Proofs.Try.prog Go.Proofs.Try.prog.depth 104 = false) ∧
    (ti Go.Proofs.Try.prog 105 = some ⟨1, 8, false, [.nilf], .nilf⟩) ∧
    (Program.eqGuardType Go.Proofs.Try.prog Go.Proofs.Try.prog.depth 105 = false) ∧
    (ti Go.Proofs.Try.prog 106 = some ⟨1, 4, false, [.i .u32 0], .i .u32 0⟩) ∧
    (Program.eqGuardType Go.Proofs.Try.prog Go.Proofs.Try.prog.depth 106 = false) ∧
    (Program.underlying Go.Proofs.Try.prog 106 = some (.int .u32)) ∧
    (ti Go.Proofs.Try.prog 107 = some ⟨4, 24, true, [.i .i64 0, .i .u32 0, .i .u32 0, .i .u32 0], .agg [.i .i64 0, .i .u32 0, .i .u32 0, .i .u32 0]⟩) ∧
    (places Go.Proofs.Try.prog 107 = some [(0, 1), (1, 1), (2, 1), (3, 1)]) ∧
    (Program.eqGuardType Go.Proofs.Try.prog Go.Proofs.Try.prog.depth 107 = false) ∧
    (Program.stoodInHeld Go.Proofs.Try.prog 107 = false) ∧
    (ti Go.Proofs.Try.prog 108 = some ⟨4, 24, true, [.i .i64 0, .i .u32 0, .i .u32 0, .i .u32 0], .agg [.i .i64 0, .i .u32 0, .i .u32 0, .i .u32 0]⟩) ∧
    (places Go.Proofs.Try.prog 108 = some [(0, 1), (1, 1), (2, 1), (3, 1)]) ∧
    (Program.eqGuardType Go.Proofs.Try.prog Go.Proofs.Try.prog.depth 108 = false) ∧
    (Program.stoodInHeld Go.Proofs.Try.prog 108 = false) ∧
    (ti Go.Proofs.Try.prog 109 = some ⟨1, 8, false, [.nilf], .nilf⟩) ∧
    (Program.eqGuardType Go.Proofs.Try.prog Go.Proofs.Try.prog.depth 109 = false) ∧
    (ti Go.Proofs.Try.prog 110 = some ⟨1, 8, false, [.nilf], .nilf⟩) ∧
    (Program.eqGuardType Go.Proofs.Try.prog Go.Proofs.Try.prog.depth 110 = false) ∧
    (ti Go.Proofs.Try.prog 111 = some ⟨1, 8, false, [.nilf], .nilf⟩) ∧
    (Program.eqGuardType Go.Proofs.Try.prog Go.Proofs.Try.prog.depth 111 = false) ∧
    (ti Go.Proofs.Try.prog 112 = some ⟨1, 8, false, [.nilf], .nilf⟩) ∧
    (Program.eqGuardType Go.Proofs.Try.prog Go.Proofs.Try.prog.depth 112 = false) ∧
    (ti Go.Proofs.Try.prog 113 = some ⟨1, 8, false, [.nilf], .nilf⟩) ∧
    (Program.eqGuardType Go.Proofs.Try.prog Go.Proofs.Try.prog.depth 113 = false) ∧
    (ti Go.Proofs.Try.prog 114 = some ⟨1, 8, false, [.nilf], .nilf⟩) ∧
    (Program.eqGuardType Go.Proofs.Try.prog Go.Proofs.Try.prog.depth 114 = false) ∧
    (ti Go.Proofs.Try.prog 115 = some ⟨1, 8, false, [.nilf], .nilf⟩) ∧
    (Program.eqGuardType Go.Proofs.Try.prog Go.Proofs.Try.prog.depth 115 = false) ∧
    (ti Go.Proofs.Try.prog 116 = some ⟨1, 8, false, [.nilf], .nilf⟩) ∧
    (Program.eqGuardType Go.Proofs.Try.prog Go.Proofs.Try.prog.depth 116 = false) :=
  ⟨by kernel_rfl,
   by kernel_rfl,
   by kernel_rfl,
   by kernel_rfl,
   by kernel_rfl,
   by kernel_rfl,
   by kernel_rfl,
   by kernel_rfl,
   by kernel_rfl,
   by kernel_rfl,
   by kernel_rfl,
   by kernel_rfl,
   by kernel_rfl,
   by kernel_rfl,
   by kernel_rfl,
   Go.Proofs.Try.underlying106,
   by kernel_rfl,
   by kernel_rfl,
   by kernel_rfl,
   by kernel_rfl,
   by kernel_rfl,
   by kernel_rfl,
   by kernel_rfl,
   by kernel_rfl,
   by kernel_rfl,
   by kernel_rfl,
   by kernel_rfl,
   by kernel_rfl,
   by kernel_rfl,
   by kernel_rfl,
   by kernel_rfl,
   by kernel_rfl,
   by kernel_rfl,
   by kernel_rfl,
   by kernel_rfl,
   by kernel_rfl,
   by kernel_rfl,
   by kernel_rfl,
   by kernel_rfl,
   by kernel_rfl⟩

theorem ty7 :
    (ti Go.Proofs.Try.prog 117 = some ⟨1, 8, false, [.nilf], .nilf⟩) ∧
    (Program.eqGuardType Go.Proofs.Try.prog Go.Proofs.Try.prog.depth 117 = false) ∧
    (ti Go.Proofs.Try.prog 119 = some ⟨1, 8, false, [.nilf], .nilf⟩) ∧
    (Program.eqGuardType Go.Proofs.Try.prog Go.Proofs.Try.prog.depth 119 = false) ∧
    (ti Go.Proofs.Try.prog 120 = some ⟨5, 40, true, [.i .i64 0, .i .u32 0, .i .u32 0, .i .u32 0, .s ⟨#[]⟩], .agg [.i .i64 0, .i .u32 0, .i .u32 0, .i .u32 0, .s ⟨#[]⟩]⟩) ∧
    (places Go.Proofs.Try.prog 120 = some [(0, 4), (4, 1)]) ∧
    (Program.eqGuardType Go.Proofs.Try.prog Go.Proofs.Try.prog.depth 120 = false) ∧
    (Program.stoodInHeld Go.Proofs.Try.prog 120 = false) ∧
    (ti Go.Proofs.Try.prog 121 = some ⟨5, 40, true, [.i .i64 0, .i .u32 0, .i .u32 0, .i .u32 0, .s ⟨#[]⟩], .agg [.i .i64 0, .i .u32 0, .i .u32 0, .i .u32 0, .s ⟨#[]⟩]⟩) ∧
    (places Go.Proofs.Try.prog 121 = some [(0, 4), (4, 1)]) ∧
    (Program.eqGuardType Go.Proofs.Try.prog Go.Proofs.Try.prog.depth 121 = false) ∧
    (Program.stoodInHeld Go.Proofs.Try.prog 121 = false) ∧
    (ti Go.Proofs.Try.prog 122 = some ⟨1, 8, false, [.nilf], .nilf⟩) ∧
    (Program.eqGuardType Go.Proofs.Try.prog Go.Proofs.Try.prog.depth 122 = false) ∧
    (ti Go.Proofs.Try.prog 123 = some ⟨1, 8, false, [.nilf], .nilf⟩) ∧
    (Program.eqGuardType Go.Proofs.Try.prog Go.Proofs.Try.prog.depth 123 = false) ∧
    (ti Go.Proofs.Try.prog 124 = some ⟨1, 8, false, [.nilf], .nilf⟩) ∧
    (Program.eqGuardType Go.Proofs.Try.prog Go.Proofs.Try.prog.depth 124 = false) ∧
    (ti Go.Proofs.Try.prog 125 = some ⟨1, 8, false, [.nilf], .nilf⟩) ∧
    (Program.eqGuardType Go.Proofs.Try.prog Go.Proofs.Try.prog.depth 125 = false) ∧
    (ti Go.Proofs.Try.prog 126 = some ⟨1, 8, false, [.nilf], .nilf⟩) ∧
    (Program.eqGuardType Go.Proofs.Try.prog Go.Proofs.Try.prog.depth 126 = false) ∧
    (ti Go.Proofs.Try.prog 127 = some ⟨4, 32, true, [.nilp, .i .i64 0, .i .u64 0, .i .i64 0], .agg [.nilp, .i .i64 0, .i .u64 0, .i .i64 0]⟩) ∧
    (places Go.Proofs.Try.prog 127 = some [(0, 1), (1, 1), (2, 1), (3, 1)]) ∧
    (Program.eqGuardType Go.Proofs.Try.prog Go.Proofs.Try.prog.depth 127 = false) ∧
    (Program.stoodInHeld Go.Proofs.Try.prog 127 = false) ∧
    (ti Go.Proofs.Try.prog 128 = some ⟨4, 32, true, [.nilp, .i .i64 0, .i .u64 0, .i .i64 0], .agg [.nilp, .i .i64 0, .i .u64 0, .i .i64 0]⟩) ∧
    (places Go.Proofs.Try.prog 128 = some [(0, 1), (1, 1), (2, 1), (3, 1)]) ∧
    (Program.eqGuardType Go.Proofs.Try.prog Go.Proofs.Try.prog.depth 128 = false) ∧
    (Program.stoodInHeld Go.Proofs.Try.prog 128 = false) ∧
    (ti Go.Proofs.Try.prog 129 = some ⟨1, 8, false, [.nilf], .nilf⟩) ∧
    (Program.eqGuardType Go.Proofs.Try.prog Go.Proofs.Try.prog.depth 129 = false) ∧
    (ti Go.Proofs.Try.prog 130 = some ⟨1, 8, false, [.nilf], .nilf⟩) ∧
    (Program.eqGuardType Go.Proofs.Try.prog Go.Proofs.Try.prog.depth 130 = false) ∧
    (ti Go.Proofs.Try.prog 131 = some ⟨1, 8, false, [.nilf], .nilf⟩) ∧
    (Program.eqGuardType Go.Proofs.Try.prog Go.Proofs.Try.prog.depth 131 = false) ∧
    (ti Go.Proofs.Try.prog 132 = some ⟨1, 24, false, [.nils], .nils⟩) ∧
    (Program.eqGuardType Go.Proofs.Try.prog Go.Proofs.Try.prog.depth 132 = false) ∧
    (Program.underlying Go.Proofs.Try.prog 132 = some (.slice 150)) ∧
    (ti Go.Proofs.Try.prog 133 = some ⟨6, 96, true, [.nils, .nils, .nils, .i .i64 0, .i .i64 0, .b false], .agg [.nils, .nils, .nils, .i .i64 0, .i .i64 0, .b false]⟩) :=
  ⟨by kernel_rfl,
   by kernel_rfl,
   by kernel_rfl,
   by kernel_rfl,
   by kernel_rfl,
   by kernel_rfl,
   by kernel_rfl,
   by kernel_rfl,
   by kernel_rfl,
   by kernel_rfl,
   by kernel_rfl,
   by kernel_rfl,
   by kernel_rfl,
   by kernel_rfl,
   by kernel_rfl,
   by kernel_rfl,
   by kernel_rfl,
   by kernel_rfl,
   by kernel_rfl,
   by kernel_rfl,
   by kernel_rfl,
   by kernel_rfl,
   by kernel_rfl,
   by kernel_rfl,
   by kernel_rfl,
   by kernel_rfl,
   by kernel_rfl,
   by kernel_rfl,
   by kernel_rfl,
   by kernel_rfl,
   by kernel_rfl,
   by kernel_rfl,
   by kernel_rfl,
   by kernel_rfl,
   by kernel_rfl,
   by kernel_rfl,
   by kernel_rfl,
   by kernel_rfl,
   Go.Proofs.Try.underlying132,
   by kernel_rfl⟩

theorem ty8 :
    (places Go.Proofs.Try.prog 133 = some [(0, 1), (1, 1), (2, 1), (3, 1), (4, 1), (5, 1)]) ∧
    (Program.eqGuardType Go.Proofs.Try.prog Go.Proofs.Try.prog.depth 133 = false) ∧
    (Program.stoodInHeld Go.Proofs.Try.prog 133 = false) ∧
    (ti Go.Proofs.Try.prog 134 = some ⟨6, 96, true, [.nils, .nils, .nils, .i .i64 0, .i .i64 0, .b false], .agg [.nils, .nils, .nils, .i .i64 0, .i .i64 0, .b false]⟩) ∧
    (places Go.Proofs.Try.prog 134 = some [(0, 1), (1, 1), (2, 1), (3, 1), (4, 1), (5, 1)]) ∧
    (Program.eqGuardType Go.Proofs.Try.prog Go.Proofs.Try.prog.depth 134 = false) ∧
    (Program.stoodInHeld Go.Proofs.Try.prog 134 = false) ∧
    (ti Go.Proofs.Try.prog 135 = some ⟨1, 8, false, [.nilf], .nilf⟩) ∧
    (Program.eqGuardType Go.Proofs.Try.prog Go.Proofs.Try.prog.depth 135 = false) ∧
    (ti Go.Proofs.Try.prog 136 = some ⟨1, 8, false, [.nilf], .nilf⟩) ∧
    (Program.eqGuardType Go.Proofs.Try.prog Go.Proofs.Try.prog.depth 136 = false) ∧
    (ti Go.Proofs.Try.prog 137 = some ⟨1, 8, false, [.nilf], .nilf⟩) ∧
    (Program.eqGuardType Go.Proofs.Try.prog Go.Proofs.Try.prog.depth 137 = false) ∧
    (ti Go.Proofs.Try.prog 138 = some ⟨1, 8, false, [.nilf], .nilf⟩) ∧
    (Program.eqGuardType Go.Proofs.Try.prog Go.Proofs.Try.prog.depth 138 = false) ∧
    (ti Go.Proofs.Try.prog 139 = some ⟨1, 8, false, [.nilf], .nilf⟩) ∧
    (Program.eqGuardType Go.Proofs.Try.prog Go.Proofs.Try.prog.depth 139 = false) ∧
    (ti Go.Proofs.Try.prog 141 = some ⟨1, 8, false, [.nilf], .nilf⟩) ∧
    (Program.eqGuardType Go.Proofs.Try.prog Go.Proofs.Try.prog.depth 141 = false) ∧
    (ti Go.Proofs.Try.prog 142 = some ⟨1, 8, false, [.nilf], .nilf⟩) ∧
    (Program.eqGuardType Go.Proofs.Try.prog Go.Proofs.Try.prog.depth 142 = false) ∧
    (ti Go.Proofs.Try.prog 143 = some ⟨1, 8, false, [.nilf], .nilf⟩) ∧
    (Program.eqGuardType Go.Proofs.Try.prog Go.Proofs.Try.prog.depth 143 = false) ∧
    (ti Go.Proofs.Try.prog 144 = some ⟨1, 8, false, [.nilf], .nilf⟩) ∧
    (Program.eqGuardType Go.Proofs.Try.prog Go.Proofs.Try.prog.depth 144 = false) ∧
    (ti Go.Proofs.Try.prog 145 = some ⟨1, 8, false, [.nilf], .nilf⟩) ∧
    (Program.eqGuardType Go.Proofs.Try.prog Go.Proofs.Try.prog.depth 145 = false) ∧
    (ti Go.Proofs.Try.prog 146 = some ⟨1, 8, false, [.nilf], .nilf⟩) ∧
    (Program.eqGuardType Go.Proofs.Try.prog Go.Proofs.Try.prog.depth 146 = false) ∧
    (ti Go.Proofs.Try.prog 147 = some ⟨1, 8, false, [.nilf], .nilf⟩) ∧
    (Program.eqGuardType Go.Proofs.Try.prog Go.Proofs.Try.prog.depth 147 = false) ∧
    (ti Go.Proofs.Try.prog 148 = some ⟨1, 8, false, [.nilf], .nilf⟩) ∧
    (Program.eqGuardType Go.Proofs.Try.prog Go.Proofs.Try.prog.depth 148 = false) ∧
    (ti Go.Proofs.Try.prog 149 = some ⟨2, 24, true, [.i .i64 0, .s ⟨#[]⟩], .agg [.i .i64 0, .s ⟨#[]⟩]⟩) ∧
    (places Go.Proofs.Try.prog 149 = some [(0, 1), (1, 1)]) ∧
    (Program.eqGuardType Go.Proofs.Try.prog Go.Proofs.Try.prog.depth 149 = false) ∧
    (Program.stoodInHeld Go.Proofs.Try.prog 149 = false) ∧
    (ti Go.Proofs.Try.prog 150 = some ⟨2, 24, true, [.i .i64 0, .s ⟨#[]⟩], .agg [.i .i64 0, .s ⟨#[]⟩]⟩) ∧
    (places Go.Proofs.Try.prog 150 = some [(0, 1), (1, 1)]) ∧
    (Program.eqGuardType Go.Proofs.Try.prog Go.Proofs.Try.prog.depth 150 = false) :=
  ⟨by kernel_rfl,
   by kernel_rfl,
   by kernel_rfl,
   by kernel_rfl,
   by kernel_rfl,
   by kernel_rfl,
   by kernel_rfl,
   by kernel_rfl,
   by kernel_rfl,
   by kernel_rfl,
   by kernel_rfl,
   by kernel_rfl,
   by kernel_rfl,
   by kernel_rfl,
   by kernel_rfl,
   by kernel_rfl,
   by kernel_rfl,
   by kernel_rfl,
   by kernel_rfl,
   by kernel_rfl,
   by kernel_rfl,
   by kernel_rfl,
   by kernel_rfl,
   by kernel_rfl,
   by kernel_rfl,
   by kernel_rfl,
   by kernel_rfl,
   by kernel_rfl,
   by kernel_rfl,
   by kernel_rfl,
   by kernel_rfl,
   by kernel_rfl,
   by kernel_rfl,
   by kernel_rfl,
   by kernel_rfl,
   by kernel_rfl,
   by kernel_rfl,
   by kernel_rfl,
   by kernel_rfl,
   by kernel_rfl⟩

theorem ty9 :
    (Program.stoodInHeld Go.Proofs.Try.prog 150 = false) ∧
    (ti Go.Proofs.Try.prog 151 = some ⟨1, 8, false, [.nilf], .nilf⟩) ∧
    (Program.eqGuardType Go.Proofs.Try.prog Go.Proofs.Try.prog.depth 151 = false) ∧
    (ti Go.Proofs.Try.prog 152 = some ⟨1, 8, false, [.nilf], .nilf⟩) ∧
    (Program.eqGuardType Go.Proofs.Try.prog Go.Proofs.Try.prog.depth 152 = false) ∧
    (ti Go.Proofs.Try.prog 153 = some ⟨1, 8, false, [.nilf], .nilf⟩) ∧
    (Program.eqGuardType Go.Proofs.Try.prog Go.Proofs.Try.prog.depth 153 = false) ∧
    (ti Go.Proofs.Try.prog 154 = some ⟨1, 8, false, [.nilf], .nilf⟩) ∧
    (Program.eqGuardType Go.Proofs.Try.prog Go.Proofs.Try.prog.depth 154 = false) ∧
    (ti Go.Proofs.Try.prog 155 = some ⟨1, 8, false, [.nilp], .nilp⟩) ∧
    (Program.eqGuardType Go.Proofs.Try.prog Go.Proofs.Try.prog.depth 155 = false) ∧
    (Program.underlying Go.Proofs.Try.prog 155 = some (.pointer 5)) ∧
    (ti Go.Proofs.Try.prog 156 = some ⟨1, 8, false, [.nilf], .nilf⟩) ∧
    (Program.eqGuardType Go.Proofs.Try.prog Go.Proofs.Try.prog.depth 156 = false) ∧
    (ti Go.Proofs.Try.prog 158 = some ⟨1, 8, false, [.nilf], .nilf⟩) ∧
    (Program.eqGuardType Go.Proofs.Try.prog Go.Proofs.Try.prog.depth 158 = false) ∧
    (ti Go.Proofs.Try.prog 159 = some ⟨1, 8, false, [.i .u64 0], .i .u64 0⟩) ∧
    (Program.eqGuardType Go.Proofs.Try.prog Go.Proofs.Try.prog.depth 159 = false) ∧
    (Program.underlying Go.Proofs.Try.prog 159 = some (.int .u64)) ∧
    (ti Go.Proofs.Try.prog 161 = some ⟨1, 8, false, [.nilf], .nilf⟩) ∧
    (Program.eqGuardType Go.Proofs.Try.prog Go.Proofs.Try.prog.depth 161 = false) ∧
    (ti Go.Proofs.Try.prog 162 = some ⟨1, 8, false, [.nilf], .nilf⟩) ∧
    (Program.eqGuardType Go.Proofs.Try.prog Go.Proofs.Try.prog.depth 162 = false) ∧
    (ti Go.Proofs.Try.prog 163 = some ⟨1, 8, false, [.nilf], .nilf⟩) ∧
    (Program.eqGuardType Go.Proofs.Try.prog Go.Proofs.Try.prog.depth 163 = false) ∧
    (ti Go.Proofs.Try.prog 164 = some ⟨1, 8, false, [.nilf], .nilf⟩) ∧
    (Program.eqGuardType Go.Proofs.Try.prog Go.Proofs.Try.prog.depth 164 = false) ∧
    (ti Go.Proofs.Try.prog 165 = some ⟨1, 24, false, [.nils], .nils⟩) ∧
    (Program.eqGuardType Go.Proofs.Try.prog Go.Proofs.Try.prog.depth 165 = false) ∧
    (Program.underlying Go.Proofs.Try.prog 165 = some (.slice 137)) ∧
    (ti Go.Proofs.Try.prog 166 = some ⟨1, 8, false, [.nilf], .nilf⟩) ∧
    (Program.eqGuardType Go.Proofs.Try.prog Go.Proofs.Try.prog.depth 166 = false) ∧
    (ti Go.Proofs.Try.prog 167 = some ⟨1, 8, false, [.nilf], .nilf⟩) ∧
    (Program.eqGuardType Go.Proofs.Try.prog Go.Proofs.Try.prog.depth 167 = false) ∧
    (ti Go.Proofs.Try.prog 168 = some ⟨2, 24, true, [.i .i64 0, .s ⟨#[]⟩], .agg [.i .i64 0, .s ⟨#[]⟩]⟩) ∧
    (places Go.Proofs.Try.prog 168 = some [(0, 1), (1, 1)]) ∧
    (Program.eqGuardType Go.Proofs.Try.prog Go.Proofs.Try.prog.depth 168 = false) ∧
    (Program.stoodInHeld Go.Proofs.Try.prog 168 = false) ∧
    (ti Go.Proofs.Try.prog 169 = some ⟨2, 24, true, [.i .i64 0, .s ⟨#[]⟩], .agg [.i .i64 0, .s ⟨#[]⟩]⟩) ∧
    (places Go.Proofs.Try.prog 169 = some [(0, 1), (1, 1)]) :=
  ⟨by kernel_rfl,
   by kernel_rfl,
   by kernel_rfl,
   by kernel_rfl,
   by kernel_rfl,
   by kernel_rfl,
   by kernel_rfl,
   by kernel_rfl,
   by kernel_rfl,
   by kernel_rfl,
   by kernel_rfl,
   Go.Proofs.Try.underlying155,
   by kernel_rfl,
   by kernel_rfl,
   by kernel_rfl,
   by kernel_rfl,
   by kernel_rfl,
   by kernel_rfl,
   Go.Proofs.Try.underlying159,
   by kernel_rfl,
   by kernel_rfl,
   by kernel_rfl,
   by kernel_rfl,
   by kernel_rfl,
   by kernel_rfl,
   by kernel_rfl,
   by kernel_rfl,
   by kernel_rfl,
   by kernel_rfl,
   Go.Proofs.Try.underlying165,
   by kernel_rfl,
   by kernel_rfl,
   by kernel_rfl,
   by kernel_rfl,
   by kernel_rfl,
   by kernel_rfl,
   by kernel_rfl,
   by kernel_rfl,
   by kernel_rfl,
   by kernel_rfl⟩

theorem ty10 :
    (Program.eqGuardType Go.Proofs.Try.prog Go.Proofs.Try.prog.depth 169 = false) ∧
    (Program.stoodInHeld Go.Proofs.Try.prog 169 = false) ∧
    (ti Go.Proofs.Try.prog 170 = some ⟨1, 8, false, [.nilf], .nilf⟩) ∧
    (Program.eqGuardType Go.Proofs.Try.prog Go.Proofs.Try.prog.depth 170 = false) ∧
    (ti Go.Proofs.Try.prog 171 = some ⟨1, 8, false, [.nilf], .nilf⟩) ∧
    (Program.eqGuardType Go.Proofs.Try.prog Go.Proofs.Try.prog.depth 171 = false) ∧
    (ti Go.Proofs.Try.prog 172 = some ⟨1, 8, false, [.nilp], .nilp⟩) ∧
    (Program.eqGuardType Go.Proofs.Try.prog Go.Proofs.Try.prog.depth 172 = false) ∧
    (Program.underlying Go.Proofs.Try.prog 172 = some (.unsafePointer)) ∧
    (ti Go.Proofs.Try.prog 173 = some ⟨1, 8, false, [.nilf], .nilf⟩) ∧
    (Program.eqGuardType Go.Proofs.Try.prog Go.Proofs.Try.prog.depth 173 = false) ∧
    (ti Go.Proofs.Try.prog 175 = some ⟨1, 8, false, [.nilf], .nilf⟩) ∧
    (Program.eqGuardType Go.Proofs.Try.prog Go.Proofs.Try.prog.depth 175 = false) ∧
    (ti Go.Proofs.Try.prog 177 = some ⟨1, 8, false, [.nilf], .nilf⟩) ∧
    (Program.eqGuardType Go.Proofs.Try.prog Go.Proofs.Try.prog.depth 177 = false) ∧
    (ti Go.Proofs.Try.prog 178 = some ⟨1, 8, false, [.nilf], .nilf⟩) ∧
    (Program.eqGuardType Go.Proofs.Try.prog Go.Proofs.Try.prog.depth 178 = false) ∧
    (ti Go.Proofs.Try.prog 179 = some ⟨4, 40, true, [.nilp, .nilp, .nilp, .s ⟨#[]⟩], .agg [.nilp, .nilp, .nilp, .s ⟨#[]⟩]⟩) ∧
    (places Go.Proofs.Try.prog 179 = some [(0, 1), (1, 1), (2, 1), (3, 1)]) ∧
    (Program.eqGuardType Go.Proofs.Try.prog Go.Proofs.Try.prog.depth 179 = false) ∧
    (Program.stoodInHeld Go.Proofs.Try.prog 179 = true) ∧
    (ti Go.Proofs.Try.prog 180 = some ⟨4, 40, true, [.nilp, .nilp, .nilp, .s ⟨#[]⟩], .agg [.nilp, .nilp, .nilp, .s ⟨#[]⟩]⟩) ∧
    (places Go.Proofs.Try.prog 180 = some [(0, 1), (1, 1), (2, 1), (3, 1)]) ∧
    (Program.eqGuardType Go.Proofs.Try.prog Go.Proofs.Try.prog.depth 180 = false) ∧
    (Program.stoodInHeld Go.Proofs.Try.prog 180 = true) ∧
    (ti Go.Proofs.Try.prog 182 = some ⟨0, 0, true, [], .agg []⟩) ∧
    (places Go.Proofs.Try.prog 182 = some [(0, 0)]) ∧
    (Program.eqGuardType Go.Proofs.Try.prog Go.Proofs.Try.prog.depth 182 = false) ∧
    (Program.stoodInHeld Go.Proofs.Try.prog 182 = true) ∧
    (ti Go.Proofs.Try.prog 183 = some ⟨0, 0, true, [], .agg []⟩) ∧
    (places Go.Proofs.Try.prog 183 = some [(0, 0)]) ∧
    (Program.eqGuardType Go.Proofs.Try.prog Go.Proofs.Try.prog.depth 183 = false) ∧
    (Program.stoodInHeld Go.Proofs.Try.prog 183 = true) ∧
    (ti Go.Proofs.Try.prog 184 = some ⟨1, 1, false, [.i .u8 0], .i .u8 0⟩) ∧
    (Program.eqGuardType Go.Proofs.Try.prog Go.Proofs.Try.prog.depth 184 = false) ∧
    (Program.underlying Go.Proofs.Try.prog 184 = some (.int .u8)) ∧
    (ti Go.Proofs.Try.prog 185 = some ⟨1, 1, false, [.i .u8 0], .i .u8 0⟩) ∧
    (Program.eqGuardType Go.Proofs.Try.prog Go.Proofs.Try.prog.depth 185 = false) ∧
    (Program.underlying Go.Proofs.Try.prog 185 = some (.int .u8)) ∧
    (ti Go.Proofs.Try.prog 186 = some ⟨1, 8, false, [.nilf], .nilf⟩) :=
  ⟨by kernel_rfl,
   by kernel_rfl,
   by kernel_rfl,
   by kernel_rfl,
   by kernel_rfl,
   by kernel_rfl,
   by kernel_rfl,
   by kernel_rfl,
   Go.Proofs.Try.underlying172,
   by kernel_rfl,
   by kernel_rfl,
   by kernel_rfl,
   by kernel_rfl,
   by kernel_rfl,
   by kernel_rfl,
   by kernel_rfl,
   by kernel_rfl,
   by kernel_rfl,
   by kernel_rfl,
   by kernel_rfl,
   by kernel_rfl,
   by kernel_rfl,
   by kernel_rfl,
   by kernel_rfl,
   by kernel_rfl,
   by kernel_rfl,
   by kernel_rfl,
   by kernel_rfl,
   by kernel_rfl,
   by kernel_rfl,
   by kernel_rfl,
   by kernel_rfl,
   by kernel_rfl,
   by kernel_rfl,
   by kernel_rfl,
   Go.Proofs.Try.underlying184,
   by kernel_rfl,
   by kernel_rfl,
   Go.Proofs.Try.underlying185,
   by kernel_rfl⟩

theorem ty11 :
    (Program.eqGuardType Go.Proofs.Try.prog Go.Proofs.Try.prog.depth 186 = false) ∧
    (ti Go.Proofs.Try.prog 187 = some ⟨1, 4, false, [.i .i32 0], .i .i32 0⟩) ∧
    (Program.eqGuardType Go.Proofs.Try.prog Go.Proofs.Try.prog.depth 187 = false) ∧
    (Program.underlying Go.Proofs.Try.prog 187 = some (.int .i32)) ∧
    (ti Go.Proofs.Try.prog 188 = some ⟨1, 4, false, [.i .i32 0], .i .i32 0⟩) ∧
    (Program.eqGuardType Go.Proofs.Try.prog Go.Proofs.Try.prog.depth 188 = false) ∧
    (Program.underlying Go.Proofs.Try.prog 188 = some (.int .i32)) ∧
    (ti Go.Proofs.Try.prog 189 = some ⟨11, 48, true, [.i .u64 0, .i .u64 0, .i .u32 0, .i .u8 0, .i .u8 0, .i .u8 0, .i .u8 0, .nilf, .nilp, .i .i32 0, .i .i32 0], .agg [.i .u64 0, .i .u64 0, .i .u32 0, .i .u8 0, .i .u8 0, .i .u8 0, .i .u8 0, .nilf, .nilp, .i .i32 0, .i .i32 0]⟩) ∧
    (places Go.Proofs.Try.prog 189 = some [(0, 1), (1, 1), (2, 1), (3, 1), (4, 1), (5, 1), (6, 1), (7, 1), (8, 1), (9, 1), (10, 1)]) ∧
    (Program.eqGuardType Go.Proofs.Try.prog Go.Proofs.Try.prog.depth 189 = false) ∧
    (Program.stoodInHeld Go.Proofs.Try.prog 189 = true) ∧
    (ti Go.Proofs.Try.prog 190 = some ⟨11, 48, true, [.i .u64 0, .i .u64 0, .i .u32 0, .i .u8 0, .i .u8 0, .i .u8 0, .i .u8 0, .nilf, .nilp, .i .i32 0, .i .i32 0], .agg [.i .u64 0, .i .u64 0, .i .u32 0, .i .u8 0, .i .u8 0, .i .u8 0, .i .u8 0, .nilf, .nilp, .i .i32 0, .i .i32 0]⟩) ∧
    (places Go.Proofs.Try.prog 190 = some [(0, 1), (1, 1), (2, 1), (3, 1), (4, 1), (5, 1), (6, 1), (7, 1), (8, 1), (9, 1), (10, 1)]) ∧
    (Program.eqGuardType Go.Proofs.Try.prog Go.Proofs.Try.prog.depth 190 = false) ∧
    (Program.stoodInHeld Go.Proofs.Try.prog 190 = true) :=
  ⟨by kernel_rfl,
   by kernel_rfl,
   by kernel_rfl,
   Go.Proofs.Try.underlying187,
   by kernel_rfl,
   by kernel_rfl,
   Go.Proofs.Try.underlying188,
   by kernel_rfl,
   by kernel_rfl,
   by kernel_rfl,
   by kernel_rfl,
   by kernel_rfl,
   by kernel_rfl,
   by kernel_rfl,
   by kernel_rfl⟩

end Go.M

import Derived.Test.YtgddigkdldnmdaaImgG
import Derived.Test.YtgddigkdldnmdaaProg
namespace Go.Proofs.Ytgddigkdldnmdaa
open Go Go.Vg
theorem ag3 : Ag Try.prog 3 false := fun _ => by kernel_rfl
theorem ag4 : Ag Try.prog 4 false := fun _ => by kernel_rfl
theorem ag5 : Ag Try.prog 5 false := fun _ => by kernel_rfl
theorem ag22 : Ag Try.prog 22 false := fun _ => by kernel_rfl
theorem ag23 : Ag Try.prog 23 false := fun _ => by kernel_rfl
theorem ag24 : Ag Try.prog 24 false := fun _ => by kernel_rfl
theorem ag26 : Ag Try.prog 26 true := fun _ => by kernel_rfl
theorem ag27 : Ag Try.prog 27 false := fun _ => by kernel_rfl
theorem ag30 : Ag Try.prog 30 false := fun _ => by kernel_rfl
theorem ag53 : Ag Try.prog 53 true := fun _ => by kernel_rfl
theorem ag60 : Ag Try.prog 60 false := fun _ => by kernel_rfl
theorem ag64 : Ag Try.prog 64 true := fun _ => by kernel_rfl
theorem ag68 : Ag Try.prog 68 true := fun _ => by kernel_rfl
theorem ag70 : Ag Try.prog 70 true := fun _ => by kernel_rfl
theorem ag74 : Ag Try.prog 74 false := fun _ => by kernel_rfl
theorem ag75 : Ag Try.prog 75 false := fun _ => by kernel_rfl
theorem ag79 : Ag Try.prog 79 true := fun _ => by kernel_rfl
theorem ag91 : Ag Try.prog 91 false := fun _ => by kernel_rfl
theorem ag95 : Ag Try.prog 95 false := fun _ => by kernel_rfl
theorem bt26 : Bt Try.prog 26 [(0, 1), (1, 1), (2, 1), (3, 1), (4, 1), (5, 1)] [.bool false, .int .i64 0, .int .i64 0, .slice none 0 0, .slice none 0 0, .slice none 0 0] := Bt.mk' _ _ Try.zeroValue26 rfl Try.underlying26 (fun _ => by kernel_rfl)
theorem bt53 : Bt Try.prog 53 [(0, 1), (1, 1)] [.slice none 0 0, .int .i64 0] := Bt.mk' _ _ Try.zeroValue53 rfl Try.underlying53 (fun _ => by kernel_rfl)
theorem bt62 : Bt Try.prog 62 [(0, 1), (1, 1)] [.slice none 0 0, .bool false] := Bt.mk' _ _ Try.zeroValue62 rfl Try.underlying62 (fun _ => by kernel_rfl)
theorem bt64 : Bt Try.prog 64 [(0, 1)] [.pointer none] := Bt.mk' _ _ Try.zeroValue64 rfl Try.underlying64 (fun _ => by kernel_rfl)
theorem bt68 : Bt Try.prog 68 [(0, 1), (1, 1), (2, 1)] [.int .i64 0, .int .i64 0, .int .i64 0] := Bt.mk' _ _ Try.zeroValue68 rfl Try.underlying68 (fun _ => by kernel_rfl)
theorem bt70 : Bt Try.prog 70 [(0, 1), (1, 1)] [.int .i64 0, .int .i64 0] := Bt.mk' _ _ Try.zeroValue70 rfl Try.underlying70 (fun _ => by kernel_rfl)
theorem bt79 : Bt Try.prog 79 [(0, 1), (1, 1), (2, 1), (3, 1)] [.int .i64 0, .int .i64 0, .int .i64 0, .int .i64 0] := Bt.mk' _ _ Try.zeroValue79 rfl Try.underlying79 (fun _ => by kernel_rfl)
theorem en14 : ∀ args w, (callFunc 14 args).run Try.prog w = .ok (.enter 14 args) w := fun args w => qy Try.func14 (by kernel_rfl) rfl args w
theorem en30 : ∀ args w, (callFunc 30 args).run Try.prog w = .ok (.enter 30 args) w := fun args w => qy Try.func30 (by kernel_rfl) rfl args w
theorem en31 : ∀ args w, (callFunc 31 args).run Try.prog w = .ok (.enter 31 args) w := fun args w => qy Try.func31 (by kernel_rfl) rfl args w
theorem en32 : ∀ args w, (callFunc 32 args).run Try.prog w = .ok (.enter 32 args) w := fun args w => qy Try.func32 (by kernel_rfl) rfl args w
theorem en33 : ∀ args w, (callFunc 33 args).run Try.prog w = .ok (.enter 33 args) w := fun args w => qy Try.func33 (by kernel_rfl) rfl args w
theorem en34 : ∀ args w, (callFunc 34 args).run Try.prog w = .ok (.enter 34 args) w := fun args w => qy Try.func34 (by kernel_rfl) rfl args w
theorem en37 : ∀ args w, (callFunc 37 args).run Try.prog w = .ok (.enter 37 args) w := fun args w => qy Try.func37 (by kernel_rfl) rfl args w
theorem en38 : ∀ args w, (callFunc 38 args).run Try.prog w = .ok (.enter 38 args) w := fun args w => qy Try.func38 (by kernel_rfl) rfl args w
theorem en39 : ∀ args w, (callFunc 39 args).run Try.prog w = .ok (.enter 39 args) w := fun args w => qy Try.func39 (by kernel_rfl) rfl args w
theorem en41 : ∀ args w, (callFunc 41 args).run Try.prog w = .ok (.enter 41 args) w := fun args w => qy Try.func41 (by kernel_rfl) rfl args w
theorem en42 : ∀ args w, (callFunc 42 args).run Try.prog w = .ok (.enter 42 args) w := fun args w => qy Try.func42 (by kernel_rfl) rfl args w
theorem en49 : ∀ args w, (callFunc 49 args).run Try.prog w = .ok (.enter 49 args) w := fun args w => qy Try.func49 (by kernel_rfl) rfl args w
theorem en50 : ∀ args w, (callFunc 50 args).run Try.prog w = .ok (.enter 50 args) w := fun args w => qy Try.func50 (by kernel_rfl) rfl args w
theorem en51 : ∀ args w, (callFunc 51 args).run Try.prog w = .ok (.enter 51 args) w := fun args w => qy Try.func51 (by kernel_rfl) rfl args w
theorem en52 : ∀ args w, (callFunc 52 args).run Try.prog w = .ok (.enter 52 args) w := fun args w => qy Try.func52 (by kernel_rfl) rfl args w
theorem en53 : ∀ args w, (callFunc 53 args).run Try.prog w = .ok (.enter 53 args) w := fun args w => qy Try.func53 (by kernel_rfl) rfl args w
theorem en54 : ∀ args w, (callFunc 54 args).run Try.prog w = .ok (.enter 54 args) w := fun args w => qy Try.func54 (by kernel_rfl) rfl args w
theorem en55 : ∀ args w, (callFunc 55 args).run Try.prog w = .ok (.enter 55 args) w := fun args w => qy Try.func55 (by kernel_rfl) rfl args w
theorem en56 : ∀ args w, (callFunc 56 args).run Try.prog w = .ok (.enter 56 args) w := fun args w => qy Try.func56 (by kernel_rfl) rfl args w
theorem en57 : ∀ args w, (callFunc 57 args).run Try.prog w = .ok (.enter 57 args) w := fun args w => qy Try.func57 (by kernel_rfl) rfl args w
theorem en58 : ∀ args w, (callFunc 58 args).run Try.prog w = .ok (.enter 58 args) w := fun args w => qy Try.func58 (by kernel_rfl) rfl args w
theorem en60 : ∀ args w, (callFunc 60 args).run Try.prog w = .ok (.enter 60 args) w := fun args w => qy Try.func60 (by kernel_rfl) rfl args w
theorem en61 : ∀ args w, (callFunc 61 args).run Try.prog w = .ok (.enter 61 args) w := fun args w => qy Try.func61 (by kernel_rfl) rfl args w
theorem en62 : ∀ args w, (callFunc 62 args).run Try.prog w = .ok (.enter 62 args) w := fun args w => qy Try.func62 (by kernel_rfl) rfl args w
theorem en63 : ∀ args w, (callFunc 63 args).run Try.prog w = .ok (.enter 63 args) w := fun args w => qy Try.func63 (by kernel_rfl) rfl args w
theorem en64 : ∀ args w, (callFunc 64 args).run Try.prog w = .ok (.enter 64 args) w := fun args w => qy Try.func64 (by kernel_rfl) rfl args w
theorem en66 : ∀ args w, (callFunc 66 args).run Try.prog w = .ok (.enter 66 args) w := fun args w => qy Try.func66 (by kernel_rfl) rfl args w
theorem en67 : ∀ args w, (callFunc 67 args).run Try.prog w = .ok (.enter 67 args) w := fun args w => qy Try.func67 (by kernel_rfl) rfl args w
theorem en68 : ∀ args w, (callFunc 68 args).run Try.prog w = .ok (.enter 68 args) w := fun args w => qy Try.func68 (by kernel_rfl) rfl args w
theorem en69 : ∀ args w, (callFunc 69 args).run Try.prog w = .ok (.enter 69 args) w := fun args w => qy Try.func69 (by kernel_rfl) rfl args w
theorem en70 : ∀ args w, (callFunc 70 args).run Try.prog w = .ok (.enter 70 args) w := fun args w => qy Try.func70 (by kernel_rfl) rfl args w
theorem en71 : ∀ args w, (callFunc 71 args).run Try.prog w = .ok (.enter 71 args) w := fun args w => qy Try.func71 (by kernel_rfl) rfl args w
theorem en72 : ∀ args w, (callFunc 72 args).run Try.prog w = .ok (.enter 72 args) w := fun args w => qy Try.func72 (by kernel_rfl) rfl args w
theorem en73 : ∀ args w, (callFunc 73 args).run Try.prog w = .ok (.enter 73 args) w := fun args w => qy Try.func73 (by kernel_rfl) rfl args w
theorem en74 : ∀ args w, (callFunc 74 args).run Try.prog w = .ok (.enter 74 args) w := fun args w => qy Try.func74 (by kernel_rfl) rfl args w
theorem en75 : ∀ args w, (callFunc 75 args).run Try.prog w = .ok (.enter 75 args) w := fun args w => qy Try.func75 (by kernel_rfl) rfl args w
theorem en76 : ∀ args w, (callFunc 76 args).run Try.prog w = .ok (.enter 76 args) w := fun args w => qy Try.func76 (by kernel_rfl) rfl args w
theorem en79 : ∀ args w, (callFunc 79 args).run Try.prog w = .ok (.enter 79 args) w := fun args w => qy Try.func79 (by kernel_rfl) rfl args w
theorem en80 : ∀ args w, (callFunc 80 args).run Try.prog w = .ok (.enter 80 args) w := fun args w => qy Try.func80 (by kernel_rfl) rfl args w
theorem en81 : ∀ args w, (callFunc 81 args).run Try.prog w = .ok (.enter 81 args) w := fun args w => qy Try.func81 (by kernel_rfl) rfl args w
theorem en82 : ∀ args w, (callFunc 82 args).run Try.prog w = .ok (.enter 82 args) w := fun args w => qy Try.func82 (by kernel_rfl) rfl args w
theorem en83 : ∀ args w, (callFunc 83 args).run Try.prog w = .ok (.enter 83 args) w := fun args w => qy Try.func83 (by kernel_rfl) rfl args w
theorem en84 : ∀ args w, (callFunc 84 args).run Try.prog w = .ok (.enter 84 args) w := fun args w => qy Try.func84 (by kernel_rfl) rfl args w
theorem en86 : ∀ args w, (callFunc 86 args).run Try.prog w = .ok (.enter 86 args) w := fun args w => qy Try.func86 (by kernel_rfl) rfl args w
theorem en87 : ∀ args w, (callFunc 87 args).run Try.prog w = .ok (.enter 87 args) w := fun args w => qy Try.func87 (by kernel_rfl) rfl args w
theorem en88 : ∀ args w, (callFunc 88 args).run Try.prog w = .ok (.enter 88 args) w := fun args w => qy Try.func88 (by kernel_rfl) rfl args w
theorem en89 : ∀ args w, (callFunc 89 args).run Try.prog w = .ok (.enter 89 args) w := fun args w => qy Try.func89 (by kernel_rfl) rfl args w
theorem en90 : ∀ args w, (callFunc 90 args).run Try.prog w = .ok (.enter 90 args) w := fun args w => qy Try.func90 (by kernel_rfl) rfl args w
theorem fd26_0 : FdAt Try.prog 26 0 0 1 false := FdAt.mk' _ _ Try.underlying26 rfl rfl (fun _ => by kernel_rfl) (fun _ => by kernel_rfl)
theorem fd26_1 : FdAt Try.prog 26 1 1 1 false := FdAt.mk' _ _ Try.underlying26 rfl rfl (fun _ => by kernel_rfl) (fun _ => by kernel_rfl)
theorem fd26_2 : FdAt Try.prog 26 2 2 1 false := FdAt.mk' _ _ Try.underlying26 rfl rfl (fun _ => by kernel_rfl) (fun _ => by kernel_rfl)
theorem jq : FdAt Try.prog 26 3 3 1 false := FdAt.mk' _ _ Try.underlying26 rfl rfl (fun _ => by kernel_rfl) (fun _ => by kernel_rfl)
theorem xx : FdAt Try.prog 26 4 4 1 false := FdAt.mk' _ _ Try.underlying26 rfl rfl (fun _ => by kernel_rfl) (fun _ => by kernel_rfl)
theorem xo : FdAt Try.prog 26 5 5 1 false := FdAt.mk' _ _ Try.underlying26 rfl rfl (fun _ => by kernel_rfl) (fun _ => by kernel_rfl)
theorem ym : FdAt Try.prog 53 0 0 1 false := FdAt.mk' _ _ Try.underlying53 rfl rfl (fun _ => by kernel_rfl) (fun _ => by kernel_rfl)
theorem fd53_1 : FdAt Try.prog 53 1 1 1 false := FdAt.mk' _ _ Try.underlying53 rfl rfl (fun _ => by kernel_rfl) (fun _ => by kernel_rfl)
theorem fd62_0 : FdAt Try.prog 62 0 0 1 false := FdAt.mk' _ _ Try.underlying62 rfl rfl (fun _ => by kernel_rfl) (fun _ => by kernel_rfl)
theorem fd62_1 : FdAt Try.prog 62 1 1 1 false := FdAt.mk' _ _ Try.underlying62 rfl rfl (fun _ => by kernel_rfl) (fun _ => by kernel_rfl)
theorem fd64_0 : FdAt Try.prog 64 0 0 1 false := FdAt.mk' _ _ Try.underlying64 rfl rfl (fun _ => by kernel_rfl) (fun _ => by kernel_rfl)
theorem fd68_0 : FdAt Try.prog 68 0 0 1 false := FdAt.mk' _ _ Try.underlying68 rfl rfl (fun _ => by kernel_rfl) (fun _ => by kernel_rfl)
theorem fd68_1 : FdAt Try.prog 68 1 1 1 false := FdAt.mk' _ _ Try.underlying68 rfl rfl (fun _ => by kernel_rfl) (fun _ => by kernel_rfl)
theorem fd68_2 : FdAt Try.prog 68 2 2 1 false := FdAt.mk' _ _ Try.underlying68 rfl rfl (fun _ => by kernel_rfl) (fun _ => by kernel_rfl)
theorem fd70_0 : FdAt Try.prog 70 0 0 1 false := FdAt.mk' _ _ Try.underlying70 rfl rfl (fun _ => by kernel_rfl) (fun _ => by kernel_rfl)
theorem fd70_1 : FdAt Try.prog 70 1 1 1 false := FdAt.mk' _ _ Try.underlying70 rfl rfl (fun _ => by kernel_rfl) (fun _ => by kernel_rfl)
theorem fd79_0 : FdAt Try.prog 79 0 0 1 false := FdAt.mk' _ _ Try.underlying79 rfl rfl (fun _ => by kernel_rfl) (fun _ => by kernel_rfl)
theorem fd79_1 : FdAt Try.prog 79 1 1 1 false := FdAt.mk' _ _ Try.underlying79 rfl rfl (fun _ => by kernel_rfl) (fun _ => by kernel_rfl)
theorem fd79_2 : FdAt Try.prog 79 2 2 1 false := FdAt.mk' _ _ Try.underlying79 rfl rfl (fun _ => by kernel_rfl) (fun _ => by kernel_rfl)
theorem fd79_3 : FdAt Try.prog 79 3 3 1 false := FdAt.mk' _ _ Try.underlying79 rfl rfl (fun _ => by kernel_rfl) (fun _ => by kernel_rfl)
theorem inf3 : Inf Try.prog 3 (.int .i64 0) 1 8 := by unfold Inf; kernel_rfl
theorem inf5 : Inf Try.prog 5 (.int .u8 0) 1 1 := by unfold Inf; kernel_rfl
theorem inf53 : Inf Try.prog 53 (.agg #[.slice none 0 0, .int .i64 0]) 2 32 := by unfold Inf; kernel_rfl
theorem inf68 : Inf Try.prog 68 (.agg #[.int .i64 0, .int .i64 0, .int .i64 0]) 3 24 := by unfold Inf; kernel_rfl
theorem inf70 : Inf Try.prog 70 (.agg #[.int .i64 0, .int .i64 0]) 2 16 := by unfold Inf; kernel_rfl
theorem inf79 : Inf Try.prog 79 (.agg #[.int .i64 0, .int .i64 0, .int .i64 0, .int .i64 0]) 4 32 := by unfold Inf; kernel_rfl
theorem js : Try.prog.follows .mixedOrders = true := by kernel_rfl
theorem ni22 : NotInt Try.prog 22 := ⟨_, Try.underlying22, by intro k h; cases h⟩
theorem ni23 : NotInt Try.prog 23 := ⟨_, Try.underlying23, by intro k h; cases h⟩
theorem ni24 : NotInt Try.prog 24 := ⟨_, Try.underlying24, by intro k h; cases h⟩
theorem ni27 : NotInt Try.prog 27 := ⟨_, Try.underlying27, by intro k h; cases h⟩
theorem ni75 : NotInt Try.prog 75 := ⟨_, Try.underlying75, by intro k h; cases h⟩
theorem sz3 : Sz Try.prog 3 1 := fun _ => by kernel_rfl
theorem sz4 : Sz Try.prog 4 1 := fun _ => by kernel_rfl
theorem sz5 : Sz Try.prog 5 1 := fun _ => by kernel_rfl
theorem sz22 : Sz Try.prog 22 1 := fun _ => by kernel_rfl
theorem sz23 : Sz Try.prog 23 1 := fun _ => by kernel_rfl
theorem sz24 : Sz Try.prog 24 1 := fun _ => by kernel_rfl
theorem sz26 : Sz Try.prog 26 6 := fun _ => by kernel_rfl
theorem sz27 : Sz Try.prog 27 1 := fun _ => by kernel_rfl
theorem sz30 : Sz Try.prog 30 1 := fun _ => by kernel_rfl
theorem sz53 : Sz Try.prog 53 2 := fun _ => by kernel_rfl
theorem sz64 : Sz Try.prog 64 1 := fun _ => by kernel_rfl
theorem sz68 : Sz Try.prog 68 3 := fun _ => by kernel_rfl
theorem sz70 : Sz Try.prog 70 2 := fun _ => by kernel_rfl
theorem sz75 : Sz Try.prog 75 1 := fun _ => by kernel_rfl
theorem sz79 : Sz Try.prog 79 4 := fun _ => by kernel_rfl
theorem sz118 : Sz Try.prog 118 3 := fun _ => by kernel_rfl
theorem un3 : Un Try.prog 3 (.int .i64) := Try.underlying3
theorem un4 : Un Try.prog 4 .bool := Try.underlying4
theorem un5 : Un Try.prog 5 (.int .u8) := Try.underlying5
theorem un9 : Un Try.prog 9 .string := Try.underlying9
theorem un22 : Un Try.prog 22 (.slice 53) := Try.underlying22
theorem un23 : Un Try.prog 23 (.slice 68) := Try.underlying23
theorem un24 : Un Try.prog 24 (.slice 70) := Try.underlying24
theorem un27 : Un Try.prog 27 (.slice 5) := Try.underlying27
theorem un43 : Un Try.prog 43 (.slice 3) := Try.underlying43
theorem un57 : Un Try.prog 57 (.int .u16) := Try.underlying57
theorem un75 : Un Try.prog 75 (.slice 79) := Try.underlying75
theorem un100 : Un Try.prog 100 (.slice 27) := Try.underlying100
theorem un102 : Un Try.prog 102 (.slice 4) := Try.underlying102
theorem un104 : Un Try.prog 104 (.array 4 3) := Try.underlying104
theorem un116 : Un Try.prog 116 (.int .i16) := Try.underlying116
theorem un118 : Un Try.prog 118 (.array 3 3) := Try.underlying118
theorem zv3 : Zv Try.prog 3 (.int .i64 0) := Try.zeroValue3
theorem zv4 : Zv Try.prog 4 (.bool false) := Try.zeroValue4
theorem zv5 : Zv Try.prog 5 (.int .u8 0) := Try.zeroValue5
theorem zv26 : Zv Try.prog 26 (.agg #[.bool false, .int .i64 0, .int .i64 0, .slice none 0 0, .slice none 0 0, .slice none 0 0]) := Try.zeroValue26
theorem zv27 : Zv Try.prog 27 (.slice none 0 0) := Try.zeroValue27
theorem zv30 : Zv Try.prog 30 (.int .i64 0) := Try.zeroValue30
theorem zv53 : Zv Try.prog 53 (.agg #[.slice none 0 0, .int .i64 0]) := Try.zeroValue53
theorem zv64 : Zv Try.prog 64 (.agg #[.pointer none]) := Try.zeroValue64
theorem zv68 : Zv Try.prog 68 (.agg #[.int .i64 0, .int .i64 0, .int .i64 0]) := Try.zeroValue68
theorem zv70 : Zv Try.prog 70 (.agg #[.int .i64 0, .int .i64 0]) := Try.zeroValue70
theorem zv75 : Zv Try.prog 75 (.slice none 0 0) := Try.zeroValue75
theorem zv79 : Zv Try.prog 79 (.agg #[.int .i64 0, .int .i64 0, .int .i64 0, .int .i64 0]) := Try.zeroValue79
theorem zv104 : Zv Try.prog 104 (.agg #[.int .i64 0, .int .i64 0, .int .i64 0, .int .i64 0]) := Try.zeroValue104
theorem zv118 : Zv Try.prog 118 (.agg #[.int .i64 0, .int .i64 0, .int .i64 0]) := Try.zeroValue118
end Go.Proofs.Ytgddigkdldnmdaa

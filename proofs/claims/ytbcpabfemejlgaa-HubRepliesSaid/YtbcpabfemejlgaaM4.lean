/- The program's tables, as instances. (Printed by gen/facts.py.) -/
import Derived.Test.YtbcpabfemejlgaaM2
import Derived.Test.YtbcpabfemejlgaaProg
import Derived.KernelRfl
import Derived.Laws.RangeAny
import Derived.Test.YtbcpabfemejlgaaM3
namespace Go.Proofs.Ytbcpabfemejlgaa
namespace K
theorem el_of {P : Program} {t sz b : Nat} {z : List Value} (h : (P.info? t).map (fun i => (i.size, i.bytes, i.zero.map (·.cells.toList))) = some (sz, b, some z)) (hl : z.length = sz) (h0 : 0 < sz) : El P t sz b z := by
  cases hi : P.info? t with
  | none => rw [hi] at h; cases h
  | some i =>
    rw [hi] at h
    simp only [Option.map_some, Option.some.injEq, Prod.mk.injEq] at h
    obtain ⟨h1, h2, h3⟩ := h
    cases hz : i.zero with
    | none => rw [hz] at h3; cases h3
    | some zv =>
      rw [hz] at h3
      simp only [Option.map_some, Option.some.injEq] at h3
      exact ⟨i, zv, hi, h1, h2, hz, by rw [← h3], hl, h0⟩
theorem fd_of {P : Program} {t f o ft : Nat} {fs : Array Field} {fd : Field} (hu : P.underlying t = some (.struct fs)) (hf : fs[f]? = some fd) (ho : fd.offset = o) (ht : fd.type = ft) {sz b : Nat} {z : List Value} (he : El P ft sz b z) : Fd P t f o ft := by
  obtain ⟨i, zv, hi, hs, _, _, _, _, h0⟩ := he.h
  exact ⟨fs, fd, i, hu, hf, ho, ht, by rw [ht]; exact hi, by omega⟩
instance : Sc Try.prog 1 := ⟨⟨_, Try.underlying1, rfl⟩, by kernel_rfl⟩
instance e1 : El Try.prog 1 1 8 [.nilFunc] := el_of (by kernel_rfl) rfl (by decide)
instance : TInt Try.prog 2 .i64 := ⟨Try.underlying2⟩
instance : Sc Try.prog 2 := ⟨⟨_, Try.underlying2, rfl⟩, by kernel_rfl⟩
instance e2 : El Try.prog 2 1 8 [(.int .i64 0)] := el_of (by kernel_rfl) rfl (by decide)
instance : TInt Try.prog 3 .i64 := ⟨Try.underlying3⟩
instance : Sc Try.prog 3 := ⟨⟨_, Try.underlying3, rfl⟩, by kernel_rfl⟩
instance e3 : El Try.prog 3 1 8 [(.int .i64 0)] := el_of (by kernel_rfl) rfl (by decide)
instance : Sc Try.prog 4 := ⟨⟨_, Try.underlying4, rfl⟩, by kernel_rfl⟩
instance e4 : El Try.prog 4 1 1 [(.bool false)] := el_of (by kernel_rfl) rfl (by decide)
instance : TInt Try.prog 5 .u8 := ⟨Try.underlying5⟩
instance : Sc Try.prog 5 := ⟨⟨_, Try.underlying5, rfl⟩, by kernel_rfl⟩
instance e5 : El Try.prog 5 1 1 [(.int .u8 0)] := el_of (by kernel_rfl) rfl (by decide)
instance : TInt Try.prog 6 .u8 := ⟨Try.underlying6⟩
instance : Sc Try.prog 6 := ⟨⟨_, Try.underlying6, rfl⟩, by kernel_rfl⟩
instance e6 : El Try.prog 6 1 1 [(.int .u8 0)] := el_of (by kernel_rfl) rfl (by decide)
instance : Ag Try.prog 7 4 := ⟨⟨_, Try.underlying7, rfl⟩, by kernel_rfl⟩
instance e7 : El Try.prog 7 4 24 [(.int .i64 0), (.int .i64 0), (.bool false), (.int .u8 0)] := el_of (by kernel_rfl) rfl (by decide)
instance : Ag Try.prog 8 4 := ⟨⟨_, Try.underlying8, rfl⟩, by kernel_rfl⟩
instance e8 : El Try.prog 8 4 24 [(.int .i64 0), (.int .i64 0), (.bool false), (.int .u8 0)] := el_of (by kernel_rfl) rfl (by decide)
instance : TStr Try.prog 9 := ⟨Try.underlying9⟩
instance : Sc Try.prog 9 := ⟨⟨_, Try.underlying9, rfl⟩, by kernel_rfl⟩
instance e9 : El Try.prog 9 1 16 [(str [])] := el_of (by kernel_rfl) rfl (by decide)
instance : TStr Try.prog 10 := ⟨Try.underlying10⟩
instance : Sc Try.prog 10 := ⟨⟨_, Try.underlying10, rfl⟩, by kernel_rfl⟩
instance e10 : El Try.prog 10 1 16 [(str [])] := el_of (by kernel_rfl) rfl (by decide)
instance : TStr Try.prog 11 := ⟨Try.underlying11⟩
instance : Sc Try.prog 11 := ⟨⟨_, Try.underlying11, rfl⟩, by kernel_rfl⟩
instance e11 : El Try.prog 11 1 16 [(str [])] := el_of (by kernel_rfl) rfl (by decide)
instance : TInt Try.prog 12 .u64 := ⟨Try.underlying12⟩
instance : Sc Try.prog 12 := ⟨⟨_, Try.underlying12, rfl⟩, by kernel_rfl⟩
instance e12 : El Try.prog 12 1 8 [(.int .u64 0)] := el_of (by kernel_rfl) rfl (by decide)
instance : Ag Try.prog 14 2 := ⟨⟨_, Try.underlying14, rfl⟩, by kernel_rfl⟩
instance e14 : El Try.prog 14 2 24 [(str []), (.int .u64 0)] := el_of (by kernel_rfl) rfl (by decide)
instance : Sc Try.prog 15 := ⟨⟨_, Try.underlying15, rfl⟩, by kernel_rfl⟩
instance e15 : El Try.prog 15 1 8 [(.pointer none)] := el_of (by kernel_rfl) rfl (by decide)
instance : Sc Try.prog 16 := ⟨⟨_, Try.underlying16, rfl⟩, by kernel_rfl⟩
instance e16 : El Try.prog 16 1 8 [(.pointer none)] := el_of (by kernel_rfl) rfl (by decide)
instance : Sc Try.prog 17 := ⟨⟨_, Try.underlying17, rfl⟩, by kernel_rfl⟩
instance e17 : El Try.prog 17 1 8 [(.pointer none)] := el_of (by kernel_rfl) rfl (by decide)
instance : Ag Try.prog 19 1 := ⟨⟨_, Try.underlying19, rfl⟩, by kernel_rfl⟩
instance e19 : El Try.prog 19 1 8 [(.pointer none)] := el_of (by kernel_rfl) rfl (by decide)
instance : Sc Try.prog 20 := ⟨⟨_, Try.underlying20, rfl⟩, by kernel_rfl⟩
instance e20 : El Try.prog 20 1 16 [.nilIface] := el_of (by kernel_rfl) rfl (by decide)
instance : TInt Try.prog 21 .i32 := ⟨Try.underlying21⟩
instance : Sc Try.prog 21 := ⟨⟨_, Try.underlying21, rfl⟩, by kernel_rfl⟩
instance e21 : El Try.prog 21 1 4 [(.int .i32 0)] := el_of (by kernel_rfl) rfl (by decide)
instance : Ag Try.prog 23 6 := ⟨⟨_, Try.underlying23, rfl⟩, by kernel_rfl⟩
instance e23 : El Try.prog 23 6 48 [(.int .i64 0), (.int .i64 0), (.int .i64 0), (.int .i64 0), (.int .i64 0), (.int .i64 0)] := el_of (by kernel_rfl) rfl (by decide)
instance : Sc Try.prog 25 := ⟨⟨_, Try.underlying25, rfl⟩, by kernel_rfl⟩
instance e25 : El Try.prog 25 1 8 [(.pointer none)] := el_of (by kernel_rfl) rfl (by decide)
instance : TInt Try.prog 26 .i64 := ⟨Try.underlying26⟩
instance : Sc Try.prog 26 := ⟨⟨_, Try.underlying26, rfl⟩, by kernel_rfl⟩
instance e26 : El Try.prog 26 1 8 [(.int .i64 0)] := el_of (by kernel_rfl) rfl (by decide)
instance : TArr Try.prog 31 5 3 := ⟨Try.underlying31⟩
instance : Ag Try.prog 31 5 := ⟨⟨_, Try.underlying31, rfl⟩, by kernel_rfl⟩
instance e31 : El Try.prog 31 5 40 [(.int .i64 0), (.int .i64 0), (.int .i64 0), (.int .i64 0), (.int .i64 0)] := el_of (by kernel_rfl) rfl (by decide)
instance : TArr Try.prog 32 5 31 := ⟨Try.underlying32⟩
instance : Ag Try.prog 32 25 := ⟨⟨_, Try.underlying32, rfl⟩, by kernel_rfl⟩
instance e32 : El Try.prog 32 25 200 [(.int .i64 0), (.int .i64 0), (.int .i64 0), (.int .i64 0), (.int .i64 0), (.int .i64 0), (.int .i64 0), (.int .i64 0), (.int .i64 0), (.int .i64 0), (.int .i64 0), (.int .i64 0), (.int .i64 0), (.int .i64 0), (.int .i64 0), (.int .i64 0), (.int .i64 0), (.int .i64 0), (.int .i64 0), (.int .i64 0), (.int .i64 0), (.int .i64 0), (.int .i64 0), (.int .i64 0), (.int .i64 0)] := el_of (by kernel_rfl) rfl (by decide)
instance : Ag Try.prog 34 36 := ⟨⟨_, Try.underlying34, rfl⟩, by kernel_rfl⟩
instance e34 : El Try.prog 34 36 288 [(.bool false), (.int .i64 0), (.int .i64 0), (.int .i64 0), (.int .i64 0), (.int .i64 0), (.int .i64 0), (.int .i64 0), (.int .i64 0), (.int .i64 0), (.int .i64 0), (.int .i64 0), (.int .i64 0), (.int .i64 0), (.int .i64 0), (.int .i64 0), (.int .i64 0), (.int .i64 0), (.int .i64 0), (.int .i64 0), (.int .i64 0), (.int .i64 0), (.int .i64 0), (.int .i64 0), (.int .i64 0), (.int .i64 0), (.int .i64 0), (.int .i64 0), (.int .i64 0), (.int .i64 0), (.int .i64 0), (.int .i64 0), (.int .i64 0), (.int .i64 0), (.int .i64 0), (.int .i64 0)] := el_of (by kernel_rfl) rfl (by decide)
instance : TArr Try.prog 36 2 5 := ⟨Try.underlying36⟩
instance : Ag Try.prog 36 2 := ⟨⟨_, Try.underlying36, rfl⟩, by kernel_rfl⟩
instance e36 : El Try.prog 36 2 2 [(.int .u8 0), (.int .u8 0)] := el_of (by kernel_rfl) rfl (by decide)
instance : TSl Try.prog 38 67 := ⟨Try.underlying38⟩
instance : Sc Try.prog 38 := ⟨⟨_, Try.underlying38, rfl⟩, by kernel_rfl⟩
instance e38 : El Try.prog 38 1 24 [(.slice none 0 0)] := el_of (by kernel_rfl) rfl (by decide)
instance : Ag Try.prog 40 9 := ⟨⟨_, Try.underlying40, rfl⟩, by kernel_rfl⟩
instance e40 : El Try.prog 40 9 88 [(.int .i64 0), (.int .i64 0), (.int .i64 0), (.int .i64 0), (.int .i64 0), (.int .i64 0), (.int .i64 0), (.int .i64 0), (.slice none 0 0)] := el_of (by kernel_rfl) rfl (by decide)
instance : TInt Try.prog 42 .u32 := ⟨Try.underlying42⟩
instance : Sc Try.prog 42 := ⟨⟨_, Try.underlying42, rfl⟩, by kernel_rfl⟩
instance e42 : El Try.prog 42 1 4 [(.int .u32 0)] := el_of (by kernel_rfl) rfl (by decide)
instance : Ag Try.prog 44 12 := ⟨⟨_, Try.underlying44, rfl⟩, by kernel_rfl⟩
instance e44 : El Try.prog 44 12 72 [(.int .u8 0), (.int .u8 0), (.int .u8 0), (.int .u8 0), (.int .i64 0), (.int .i64 0), (.int .i64 0), (.int .i64 0), (.int .i64 0), (.int .i64 0), (.int .i64 0), (.int .u32 0)] := el_of (by kernel_rfl) rfl (by decide)
instance : TSl Try.prog 45 5 := ⟨Try.underlying45⟩
instance : Sc Try.prog 45 := ⟨⟨_, Try.underlying45, rfl⟩, by kernel_rfl⟩
instance e45 : El Try.prog 45 1 24 [(.slice none 0 0)] := el_of (by kernel_rfl) rfl (by decide)
instance : Sc Try.prog 54 := ⟨⟨_, Try.underlying54, rfl⟩, by kernel_rfl⟩
instance e54 : El Try.prog 54 1 8 [.nilFunc] := el_of (by kernel_rfl) rfl (by decide)
instance : Sc Try.prog 57 := ⟨⟨_, Try.underlying57, rfl⟩, by kernel_rfl⟩
instance e57 : El Try.prog 57 1 8 [(.pointer none)] := el_of (by kernel_rfl) rfl (by decide)
instance : Ag Try.prog 60 2 := ⟨⟨_, Try.underlying60, rfl⟩, by kernel_rfl⟩
instance e60 : El Try.prog 60 2 16 [(.pointer none), (.bool false)] := el_of (by kernel_rfl) rfl (by decide)
instance : Sc Try.prog 61 := ⟨⟨_, Try.underlying61, rfl⟩, by kernel_rfl⟩
instance e61 : El Try.prog 61 1 8 [(.pointer none)] := el_of (by kernel_rfl) rfl (by decide)
instance : Ag Try.prog 64 9 := ⟨⟨_, Try.underlying64, rfl⟩, by kernel_rfl⟩
instance e64 : El Try.prog 64 9 72 [(.pointer none), (.bool false), (.int .i64 0), (.int .i64 0), (.int .i64 0), (.int .i64 0), (.int .i64 0), (.int .i64 0), (.pointer none)] := el_of (by kernel_rfl) rfl (by decide)
instance : Ag Try.prog 67 12 := ⟨⟨_, Try.underlying67, rfl⟩, by kernel_rfl⟩
instance e67 : El Try.prog 67 12 112 [(.int .i64 0), (.int .i64 0), (.int .i64 0), (.int .i64 0), (.int .i64 0), (.int .i64 0), (.int .i64 0), (.int .i64 0), (.int .i64 0), (str []), (.int .i64 0), (str [])] := el_of (by kernel_rfl) rfl (by decide)
instance : TInt Try.prog 70 .u64 := ⟨Try.underlying70⟩
instance : Sc Try.prog 70 := ⟨⟨_, Try.underlying70, rfl⟩, by kernel_rfl⟩
instance e70 : El Try.prog 70 1 8 [(.int .u64 0)] := el_of (by kernel_rfl) rfl (by decide)
instance : TSl Try.prog 80 84 := ⟨Try.underlying80⟩
instance : Sc Try.prog 80 := ⟨⟨_, Try.underlying80, rfl⟩, by kernel_rfl⟩
instance e80 : El Try.prog 80 1 24 [(.slice none 0 0)] := el_of (by kernel_rfl) rfl (by decide)
instance : Ag Try.prog 84 9 := ⟨⟨_, Try.underlying84, rfl⟩, by kernel_rfl⟩
instance e84 : El Try.prog 84 9 88 [(.int .i64 0), (.int .i64 0), (.int .i64 0), (.int .i64 0), (.int .i64 0), (.int .i64 0), (.int .i64 0), (.int .i64 0), (.slice none 0 0)] := el_of (by kernel_rfl) rfl (by decide)
instance : TArr Try.prog 88 2 3 := ⟨Try.underlying88⟩
instance : Ag Try.prog 88 2 := ⟨⟨_, Try.underlying88, rfl⟩, by kernel_rfl⟩
instance e88 : El Try.prog 88 2 16 [(.int .i64 0), (.int .i64 0)] := el_of (by kernel_rfl) rfl (by decide)
instance : TArr Try.prog 89 6 88 := ⟨Try.underlying89⟩
instance : Ag Try.prog 89 12 := ⟨⟨_, Try.underlying89, rfl⟩, by kernel_rfl⟩
instance e89 : El Try.prog 89 12 96 [(.int .i64 0), (.int .i64 0), (.int .i64 0), (.int .i64 0), (.int .i64 0), (.int .i64 0), (.int .i64 0), (.int .i64 0), (.int .i64 0), (.int .i64 0), (.int .i64 0), (.int .i64 0)] := el_of (by kernel_rfl) rfl (by decide)
instance : TSl Try.prog 90 31 := ⟨Try.underlying90⟩
instance : Sc Try.prog 90 := ⟨⟨_, Try.underlying90, rfl⟩, by kernel_rfl⟩
instance e90 : El Try.prog 90 1 24 [(.slice none 0 0)] := el_of (by kernel_rfl) rfl (by decide)
instance : TSl Try.prog 91 94 := ⟨Try.underlying91⟩
instance : Sc Try.prog 91 := ⟨⟨_, Try.underlying91, rfl⟩, by kernel_rfl⟩
instance e91 : El Try.prog 91 1 24 [(.slice none 0 0)] := el_of (by kernel_rfl) rfl (by decide)
instance : Ag Try.prog 93 2 := ⟨⟨_, Try.underlying93, rfl⟩, by kernel_rfl⟩
instance e93 : El Try.prog 93 2 48 [(.slice none 0 0), (.slice none 0 0)] := el_of (by kernel_rfl) rfl (by decide)
instance : Sc Try.prog 94 := ⟨⟨_, Try.underlying94, rfl⟩, by kernel_rfl⟩
instance e94 : El Try.prog 94 1 8 [(.pointer none)] := el_of (by kernel_rfl) rfl (by decide)
instance : Sc Try.prog 96 := ⟨⟨_, Try.underlying96, rfl⟩, by kernel_rfl⟩
instance e96 : El Try.prog 96 1 8 [(.map none)] := el_of (by kernel_rfl) rfl (by decide)
instance : Ag Try.prog 98 3 := ⟨⟨_, Try.underlying98, rfl⟩, by kernel_rfl⟩
instance e98 : El Try.prog 98 3 40 [(.slice none 0 0), (.bool false), (.map none)] := el_of (by kernel_rfl) rfl (by decide)
instance : Sc Try.prog 99 := ⟨⟨_, Try.underlying99, rfl⟩, by kernel_rfl⟩
instance e99 : El Try.prog 99 1 8 [.nilFunc] := el_of (by kernel_rfl) rfl (by decide)
instance : TArr Try.prog 109 4 5 := ⟨Try.underlying109⟩
instance : Ag Try.prog 109 4 := ⟨⟨_, Try.underlying109, rfl⟩, by kernel_rfl⟩
instance e109 : El Try.prog 109 4 4 [(.int .u8 0), (.int .u8 0), (.int .u8 0), (.int .u8 0)] := el_of (by kernel_rfl) rfl (by decide)
instance : Sc Try.prog 118 := ⟨⟨_, Try.underlying118, rfl⟩, by kernel_rfl⟩
instance e118 : El Try.prog 118 1 8 [.nilFunc] := el_of (by kernel_rfl) rfl (by decide)
instance : Ag Try.prog 122 3 := ⟨⟨_, Try.underlying122, rfl⟩, by kernel_rfl⟩
instance e122 : El Try.prog 122 3 40 [(.int .i64 0), (.int .i64 0), (.slice none 0 0)] := el_of (by kernel_rfl) rfl (by decide)
instance : Ag Try.prog 126 4 := ⟨⟨_, Try.underlying126, rfl⟩, by kernel_rfl⟩
instance e126 : El Try.prog 126 4 48 [(.int .i64 0), (str []), (.int .i64 0), (str [])] := el_of (by kernel_rfl) rfl (by decide)
instance : Sc Try.prog 131 := ⟨⟨_, Try.underlying131, rfl⟩, by kernel_rfl⟩
instance e131 : El Try.prog 131 1 8 [.nilFunc] := el_of (by kernel_rfl) rfl (by decide)
instance : Sc Try.prog 133 := ⟨⟨_, Try.underlying133, rfl⟩, by kernel_rfl⟩
instance e133 : El Try.prog 133 1 8 [(.map none)] := el_of (by kernel_rfl) rfl (by decide)
instance : TInt Try.prog 134 .u64 := ⟨Try.underlying134⟩
instance : Sc Try.prog 134 := ⟨⟨_, Try.underlying134, rfl⟩, by kernel_rfl⟩
instance e134 : El Try.prog 134 1 8 [(.int .u64 0)] := el_of (by kernel_rfl) rfl (by decide)
instance : Sc Try.prog 135 := ⟨⟨_, Try.underlying135, rfl⟩, by kernel_rfl⟩
instance e135 : El Try.prog 135 1 8 [.nilFunc] := el_of (by kernel_rfl) rfl (by decide)
instance : Sc Try.prog 137 := ⟨⟨_, Try.underlying137, rfl⟩, by kernel_rfl⟩
instance e137 : El Try.prog 137 1 8 [.nilFunc] := el_of (by kernel_rfl) rfl (by decide)
instance : Sc Try.prog 138 := ⟨⟨_, Try.underlying138, rfl⟩, by kernel_rfl⟩
instance e138 : El Try.prog 138 1 8 [.nilFunc] := el_of (by kernel_rfl) rfl (by decide)
instance : Sc Try.prog 139 := ⟨⟨_, Try.underlying139, rfl⟩, by kernel_rfl⟩
instance e139 : El Try.prog 139 1 8 [.nilFunc] := el_of (by kernel_rfl) rfl (by decide)
instance : Ag Try.prog 142 3 := ⟨⟨_, Try.underlying142, rfl⟩, by kernel_rfl⟩
instance e142 : El Try.prog 142 3 3 [(.bool false), (.bool false), (.bool false)] := el_of (by kernel_rfl) rfl (by decide)
instance : TSl Try.prog 150 45 := ⟨Try.underlying150⟩
instance : Sc Try.prog 150 := ⟨⟨_, Try.underlying150, rfl⟩, by kernel_rfl⟩
instance e150 : El Try.prog 150 1 24 [(.slice none 0 0)] := el_of (by kernel_rfl) rfl (by decide)
instance : TInt Try.prog 159 .u8 := ⟨Try.underlying159⟩
instance : Sc Try.prog 159 := ⟨⟨_, Try.underlying159, rfl⟩, by kernel_rfl⟩
instance e159 : El Try.prog 159 1 1 [(.int .u8 0)] := el_of (by kernel_rfl) rfl (by decide)
instance : Fd Try.prog 7 0 0 2 := fd_of Try.underlying7 rfl rfl rfl (e2)
instance : Fd Try.prog 7 1 1 3 := fd_of Try.underlying7 rfl rfl rfl (e3)
instance : Fd Try.prog 7 2 2 4 := fd_of Try.underlying7 rfl rfl rfl (e4)
instance : Fd Try.prog 7 3 3 6 := fd_of Try.underlying7 rfl rfl rfl (e6)
instance : Fd Try.prog 8 0 0 2 := fd_of Try.underlying8 rfl rfl rfl (e2)
instance : Fd Try.prog 8 1 1 3 := fd_of Try.underlying8 rfl rfl rfl (e3)
instance : Fd Try.prog 8 2 2 4 := fd_of Try.underlying8 rfl rfl rfl (e4)
instance : Fd Try.prog 8 3 3 6 := fd_of Try.underlying8 rfl rfl rfl (e6)
instance : Fd Try.prog 14 0 0 9 := fd_of Try.underlying14 rfl rfl rfl (e9)
instance : Fd Try.prog 14 1 1 12 := fd_of Try.underlying14 rfl rfl rfl (e12)
instance : Fd Try.prog 19 0 0 17 := fd_of Try.underlying19 rfl rfl rfl (e17)
instance : Fd Try.prog 23 0 0 3 := fd_of Try.underlying23 rfl rfl rfl (e3)
instance : Fd Try.prog 23 1 1 3 := fd_of Try.underlying23 rfl rfl rfl (e3)
instance : Fd Try.prog 23 2 2 3 := fd_of Try.underlying23 rfl rfl rfl (e3)
instance : Fd Try.prog 23 3 3 3 := fd_of Try.underlying23 rfl rfl rfl (e3)
instance : Fd Try.prog 23 4 4 3 := fd_of Try.underlying23 rfl rfl rfl (e3)
instance : Fd Try.prog 23 5 5 3 := fd_of Try.underlying23 rfl rfl rfl (e3)
instance : Fd Try.prog 34 0 0 4 := fd_of Try.underlying34 rfl rfl rfl (e4)
instance : Fd Try.prog 34 1 1 31 := fd_of Try.underlying34 rfl rfl rfl (e31)
instance : Fd Try.prog 34 2 6 31 := fd_of Try.underlying34 rfl rfl rfl (e31)
instance : Fd Try.prog 34 3 11 32 := fd_of Try.underlying34 rfl rfl rfl (e32)
instance : Fd Try.prog 40 0 0 3 := fd_of Try.underlying40 rfl rfl rfl (e3)
instance : Fd Try.prog 40 1 1 3 := fd_of Try.underlying40 rfl rfl rfl (e3)
instance : Fd Try.prog 40 2 2 3 := fd_of Try.underlying40 rfl rfl rfl (e3)
instance : Fd Try.prog 40 3 3 31 := fd_of Try.underlying40 rfl rfl rfl (e31)
instance : Fd Try.prog 40 4 8 38 := fd_of Try.underlying40 rfl rfl rfl (e38)
instance : Fd Try.prog 44 0 0 5 := fd_of Try.underlying44 rfl rfl rfl (e5)
instance : Fd Try.prog 44 1 1 5 := fd_of Try.underlying44 rfl rfl rfl (e5)
instance : Fd Try.prog 44 2 2 5 := fd_of Try.underlying44 rfl rfl rfl (e5)
instance : Fd Try.prog 44 3 3 5 := fd_of Try.underlying44 rfl rfl rfl (e5)
instance : Fd Try.prog 44 4 4 31 := fd_of Try.underlying44 rfl rfl rfl (e31)
instance : Fd Try.prog 44 5 9 3 := fd_of Try.underlying44 rfl rfl rfl (e3)
instance : Fd Try.prog 44 6 10 3 := fd_of Try.underlying44 rfl rfl rfl (e3)
instance : Fd Try.prog 44 7 11 42 := fd_of Try.underlying44 rfl rfl rfl (e42)
instance : Fd Try.prog 60 0 0 57 := fd_of Try.underlying60 rfl rfl rfl (e57)
instance : Fd Try.prog 60 1 1 4 := fd_of Try.underlying60 rfl rfl rfl (e4)
instance : Fd Try.prog 64 0 0 60 := fd_of Try.underlying64 rfl rfl rfl (e60)
instance : Fd Try.prog 64 1 2 23 := fd_of Try.underlying64 rfl rfl rfl (e23)
instance : Fd Try.prog 64 2 8 61 := fd_of Try.underlying64 rfl rfl rfl (e61)
instance : Fd Try.prog 67 0 0 3 := fd_of Try.underlying67 rfl rfl rfl (e3)
instance : Fd Try.prog 67 1 1 3 := fd_of Try.underlying67 rfl rfl rfl (e3)
instance : Fd Try.prog 67 2 2 31 := fd_of Try.underlying67 rfl rfl rfl (e31)
instance : Fd Try.prog 67 3 7 3 := fd_of Try.underlying67 rfl rfl rfl (e3)
instance : Fd Try.prog 67 4 8 3 := fd_of Try.underlying67 rfl rfl rfl (e3)
instance : Fd Try.prog 67 5 9 9 := fd_of Try.underlying67 rfl rfl rfl (e9)
instance : Fd Try.prog 67 6 10 3 := fd_of Try.underlying67 rfl rfl rfl (e3)
instance : Fd Try.prog 67 7 11 9 := fd_of Try.underlying67 rfl rfl rfl (e9)
instance : Fd Try.prog 84 0 0 3 := fd_of Try.underlying84 rfl rfl rfl (e3)
instance : Fd Try.prog 84 1 1 3 := fd_of Try.underlying84 rfl rfl rfl (e3)
instance : Fd Try.prog 84 2 2 3 := fd_of Try.underlying84 rfl rfl rfl (e3)
instance : Fd Try.prog 84 3 3 31 := fd_of Try.underlying84 rfl rfl rfl (e31)
instance : Fd Try.prog 84 4 8 38 := fd_of Try.underlying84 rfl rfl rfl (e38)
instance : Fd Try.prog 93 0 0 91 := fd_of Try.underlying93 rfl rfl rfl (e91)
instance : Fd Try.prog 93 1 1 90 := fd_of Try.underlying93 rfl rfl rfl (e90)
instance : Fd Try.prog 98 0 0 45 := fd_of Try.underlying98 rfl rfl rfl (e45)
instance : Fd Try.prog 98 1 1 4 := fd_of Try.underlying98 rfl rfl rfl (e4)
instance : Fd Try.prog 98 2 2 96 := fd_of Try.underlying98 rfl rfl rfl (e96)
instance : Fd Try.prog 122 0 0 3 := fd_of Try.underlying122 rfl rfl rfl (e3)
instance : Fd Try.prog 122 1 1 3 := fd_of Try.underlying122 rfl rfl rfl (e3)
instance : Fd Try.prog 122 2 2 38 := fd_of Try.underlying122 rfl rfl rfl (e38)
instance : Fd Try.prog 126 0 0 3 := fd_of Try.underlying126 rfl rfl rfl (e3)
instance : Fd Try.prog 126 1 1 9 := fd_of Try.underlying126 rfl rfl rfl (e9)
instance : Fd Try.prog 126 2 2 3 := fd_of Try.underlying126 rfl rfl rfl (e3)
instance : Fd Try.prog 126 3 3 9 := fd_of Try.underlying126 rfl rfl rfl (e9)
instance : Fd Try.prog 142 0 0 4 := fd_of Try.underlying142 rfl rfl rfl (e4)
instance : Fd Try.prog 142 1 1 4 := fd_of Try.underlying142 rfl rfl rfl (e4)
instance : Fd Try.prog 142 2 2 4 := fd_of Try.underlying142 rfl rfl rfl (e4)
instance : Bd Try.prog 7 [(.int .i64 0), (.int .i64 0), (.bool false), (.int .u8 0)] (nth [(0, 1), (1, 1), (2, 1), (3, 1)]) := bd_struct (by kernel_rfl) Try.underlying7 (by kernel_rfl)
instance : Bd Try.prog 8 [(.int .i64 0), (.int .i64 0), (.bool false), (.int .u8 0)] (nth [(0, 1), (1, 1), (2, 1), (3, 1)]) := bd_struct (by kernel_rfl) Try.underlying8 (by kernel_rfl)
instance : Bd Try.prog 14 [(str []), (.int .u64 0)] (nth [(0, 1), (1, 1)]) := bd_struct (by kernel_rfl) Try.underlying14 (by kernel_rfl)
instance : Bd Try.prog 19 [(.pointer none)] (nth [(0, 1)]) := bd_struct (by kernel_rfl) Try.underlying19 (by kernel_rfl)
instance : Bd Try.prog 23 [(.int .i64 0), (.int .i64 0), (.int .i64 0), (.int .i64 0), (.int .i64 0), (.int .i64 0)] (nth [(0, 1), (1, 1), (2, 1), (3, 1), (4, 1), (5, 1)]) := bd_struct (by kernel_rfl) Try.underlying23 (by kernel_rfl)
instance : Bd Try.prog 31 [(.int .i64 0), (.int .i64 0), (.int .i64 0), (.int .i64 0), (.int .i64 0)] (fun i => some (i * 1, 1)) := bd_array (by kernel_rfl) Try.underlying31 (by kernel_rfl)
instance : Bd Try.prog 32 [(.int .i64 0), (.int .i64 0), (.int .i64 0), (.int .i64 0), (.int .i64 0), (.int .i64 0), (.int .i64 0), (.int .i64 0), (.int .i64 0), (.int .i64 0), (.int .i64 0), (.int .i64 0), (.int .i64 0), (.int .i64 0), (.int .i64 0), (.int .i64 0), (.int .i64 0), (.int .i64 0), (.int .i64 0), (.int .i64 0), (.int .i64 0), (.int .i64 0), (.int .i64 0), (.int .i64 0), (.int .i64 0)] (fun i => some (i * 5, 5)) := bd_array (by kernel_rfl) Try.underlying32 (by kernel_rfl)
instance : Bd Try.prog 34 [(.bool false), (.int .i64 0), (.int .i64 0), (.int .i64 0), (.int .i64 0), (.int .i64 0), (.int .i64 0), (.int .i64 0), (.int .i64 0), (.int .i64 0), (.int .i64 0), (.int .i64 0), (.int .i64 0), (.int .i64 0), (.int .i64 0), (.int .i64 0), (.int .i64 0), (.int .i64 0), (.int .i64 0), (.int .i64 0), (.int .i64 0), (.int .i64 0), (.int .i64 0), (.int .i64 0), (.int .i64 0), (.int .i64 0), (.int .i64 0), (.int .i64 0), (.int .i64 0), (.int .i64 0), (.int .i64 0), (.int .i64 0), (.int .i64 0), (.int .i64 0), (.int .i64 0), (.int .i64 0)] (nth [(0, 1), (1, 5), (6, 5), (11, 25)]) := bd_struct (by kernel_rfl) Try.underlying34 (by kernel_rfl)
instance : Bd Try.prog 36 [(.int .u8 0), (.int .u8 0)] (fun i => some (i * 1, 1)) := bd_array (by kernel_rfl) Try.underlying36 (by kernel_rfl)
instance : Bd Try.prog 40 [(.int .i64 0), (.int .i64 0), (.int .i64 0), (.int .i64 0), (.int .i64 0), (.int .i64 0), (.int .i64 0), (.int .i64 0), (.slice none 0 0)] (nth [(0, 1), (1, 1), (2, 1), (3, 5), (8, 1)]) := bd_struct (by kernel_rfl) Try.underlying40 (by kernel_rfl)
instance : Bd Try.prog 44 [(.int .u8 0), (.int .u8 0), (.int .u8 0), (.int .u8 0), (.int .i64 0), (.int .i64 0), (.int .i64 0), (.int .i64 0), (.int .i64 0), (.int .i64 0), (.int .i64 0), (.int .u32 0)] (nth [(0, 1), (1, 1), (2, 1), (3, 1), (4, 5), (9, 1), (10, 1), (11, 1)]) := bd_struct (by kernel_rfl) Try.underlying44 (by kernel_rfl)
instance : Bd Try.prog 60 [(.pointer none), (.bool false)] (nth [(0, 1), (1, 1)]) := bd_struct (by kernel_rfl) Try.underlying60 (by kernel_rfl)
instance : Bd Try.prog 64 [(.pointer none), (.bool false), (.int .i64 0), (.int .i64 0), (.int .i64 0), (.int .i64 0), (.int .i64 0), (.int .i64 0), (.pointer none)] (nth [(0, 2), (2, 6), (8, 1)]) := bd_struct (by kernel_rfl) Try.underlying64 (by kernel_rfl)
instance : Bd Try.prog 67 [(.int .i64 0), (.int .i64 0), (.int .i64 0), (.int .i64 0), (.int .i64 0), (.int .i64 0), (.int .i64 0), (.int .i64 0), (.int .i64 0), (str []), (.int .i64 0), (str [])] (nth [(0, 1), (1, 1), (2, 5), (7, 1), (8, 1), (9, 1), (10, 1), (11, 1)]) := bd_struct (by kernel_rfl) Try.underlying67 (by kernel_rfl)
instance : Bd Try.prog 84 [(.int .i64 0), (.int .i64 0), (.int .i64 0), (.int .i64 0), (.int .i64 0), (.int .i64 0), (.int .i64 0), (.int .i64 0), (.slice none 0 0)] (nth [(0, 1), (1, 1), (2, 1), (3, 5), (8, 1)]) := bd_struct (by kernel_rfl) Try.underlying84 (by kernel_rfl)
instance : Bd Try.prog 88 [(.int .i64 0), (.int .i64 0)] (fun i => some (i * 1, 1)) := bd_array (by kernel_rfl) Try.underlying88 (by kernel_rfl)
instance : Bd Try.prog 89 [(.int .i64 0), (.int .i64 0), (.int .i64 0), (.int .i64 0), (.int .i64 0), (.int .i64 0), (.int .i64 0), (.int .i64 0), (.int .i64 0), (.int .i64 0), (.int .i64 0), (.int .i64 0)] (fun i => some (i * 2, 2)) := bd_array (by kernel_rfl) Try.underlying89 (by kernel_rfl)
instance : Bd Try.prog 93 [(.slice none 0 0), (.slice none 0 0)] (nth [(0, 1), (1, 1)]) := bd_struct (by kernel_rfl) Try.underlying93 (by kernel_rfl)
instance : Bd Try.prog 98 [(.slice none 0 0), (.bool false), (.map none)] (nth [(0, 1), (1, 1), (2, 1)]) := bd_struct (by kernel_rfl) Try.underlying98 (by kernel_rfl)
instance : Bd Try.prog 109 [(.int .u8 0), (.int .u8 0), (.int .u8 0), (.int .u8 0)] (fun i => some (i * 1, 1)) := bd_array (by kernel_rfl) Try.underlying109 (by kernel_rfl)
instance : Bd Try.prog 122 [(.int .i64 0), (.int .i64 0), (.slice none 0 0)] (nth [(0, 1), (1, 1), (2, 1)]) := bd_struct (by kernel_rfl) Try.underlying122 (by kernel_rfl)
instance : Bd Try.prog 126 [(.int .i64 0), (str []), (.int .i64 0), (str [])] (nth [(0, 1), (1, 1), (2, 1), (3, 1)]) := bd_struct (by kernel_rfl) Try.underlying126 (by kernel_rfl)
instance : Bd Try.prog 142 [(.bool false), (.bool false), (.bool false)] (nth [(0, 1), (1, 1), (2, 1)]) := bd_struct (by kernel_rfl) Try.underlying142 (by kernel_rfl)
instance : Fnc Try.prog 3 Try.f3 := ⟨Try.func3, by kernel_rfl, by kernel_rfl⟩
instance : Fnc Try.prog 4 Try.f4 := ⟨Try.func4, by kernel_rfl, by kernel_rfl⟩
instance : Fnc Try.prog 5 Try.f5 := ⟨Try.func5, by kernel_rfl, by kernel_rfl⟩
instance : Fnc Try.prog 6 Try.f6 := ⟨Try.func6, by kernel_rfl, by kernel_rfl⟩
instance : Fnc Try.prog 7 Try.f7 := ⟨Try.func7, by kernel_rfl, by kernel_rfl⟩
instance : Fnc Try.prog 8 Try.f8 := ⟨Try.func8, by kernel_rfl, by kernel_rfl⟩
instance : Fnc Try.prog 9 Try.f9 := ⟨Try.func9, by kernel_rfl, by kernel_rfl⟩
instance : Fnc Try.prog 10 Try.f10 := ⟨Try.func10, by kernel_rfl, by kernel_rfl⟩
instance : Fnc Try.prog 11 Try.f11 := ⟨Try.func11, by kernel_rfl, by kernel_rfl⟩
instance : Fnc Try.prog 12 Try.f12 := ⟨Try.func12, by kernel_rfl, by kernel_rfl⟩
instance : Fnc Try.prog 13 Try.f13 := ⟨Try.func13, by kernel_rfl, by kernel_rfl⟩
instance : Fnc Try.prog 14 Try.f14 := ⟨Try.func14, by kernel_rfl, by kernel_rfl⟩
instance : Fnc Try.prog 15 Try.f15 := ⟨Try.func15, by kernel_rfl, by kernel_rfl⟩
instance : Fnc Try.prog 16 Try.f16 := ⟨Try.func16, by kernel_rfl, by kernel_rfl⟩
instance : Fnc Try.prog 17 Try.f17 := ⟨Try.func17, by kernel_rfl, by kernel_rfl⟩
instance : Fnc Try.prog 18 Try.f18 := ⟨Try.func18, by kernel_rfl, by kernel_rfl⟩
instance : Fnc Try.prog 19 Try.f19 := ⟨Try.func19, by kernel_rfl, by kernel_rfl⟩
instance : Fnc Try.prog 20 Try.f20 := ⟨Try.func20, by kernel_rfl, by kernel_rfl⟩
instance : Fnc Try.prog 21 Try.f21 := ⟨Try.func21, by kernel_rfl, by kernel_rfl⟩
instance : Fnc Try.prog 22 Try.f22 := ⟨Try.func22, by kernel_rfl, by kernel_rfl⟩
instance : Fnc Try.prog 23 Try.f23 := ⟨Try.func23, by kernel_rfl, by kernel_rfl⟩
instance : Fnc Try.prog 24 Try.f24 := ⟨Try.func24, by kernel_rfl, by kernel_rfl⟩
instance : Fnc Try.prog 25 Try.f25 := ⟨Try.func25, by kernel_rfl, by kernel_rfl⟩
instance : Fnc Try.prog 26 Try.f26 := ⟨Try.func26, by kernel_rfl, by kernel_rfl⟩
instance : Fnc Try.prog 27 Try.f27 := ⟨Try.func27, by kernel_rfl, by kernel_rfl⟩
instance : Fnc Try.prog 28 Try.f28 := ⟨Try.func28, by kernel_rfl, by kernel_rfl⟩
instance : Fnc Try.prog 29 Try.f29 := ⟨Try.func29, by kernel_rfl, by kernel_rfl⟩
instance : Fnc Try.prog 30 Try.f30 := ⟨Try.func30, by kernel_rfl, by kernel_rfl⟩
instance : Fnc Try.prog 31 Try.f31 := ⟨Try.func31, by kernel_rfl, by kernel_rfl⟩
instance : Fnc Try.prog 32 Try.f32 := ⟨Try.func32, by kernel_rfl, by kernel_rfl⟩
instance : Fnc Try.prog 33 Try.f33 := ⟨Try.func33, by kernel_rfl, by kernel_rfl⟩
instance : Fnc Try.prog 34 Try.f34 := ⟨Try.func34, by kernel_rfl, by kernel_rfl⟩
instance : Fnc Try.prog 35 Try.f35 := ⟨Try.func35, by kernel_rfl, by kernel_rfl⟩
instance : Fnc Try.prog 36 Try.f36 := ⟨Try.func36, by kernel_rfl, by kernel_rfl⟩
instance : Fnc Try.prog 37 Try.f37 := ⟨Try.func37, by kernel_rfl, by kernel_rfl⟩
instance : Fnc Try.prog 38 Try.f38 := ⟨Try.func38, by kernel_rfl, by kernel_rfl⟩
instance : Fnc Try.prog 39 Try.f39 := ⟨Try.func39, by kernel_rfl, by kernel_rfl⟩
instance : Fnc Try.prog 40 Try.f40 := ⟨Try.func40, by kernel_rfl, by kernel_rfl⟩
instance : Fnc Try.prog 41 Try.f41 := ⟨Try.func41, by kernel_rfl, by kernel_rfl⟩
instance : Fnc Try.prog 42 Try.f42 := ⟨Try.func42, by kernel_rfl, by kernel_rfl⟩
instance : Fnc Try.prog 43 Try.f43 := ⟨Try.func43, by kernel_rfl, by kernel_rfl⟩
instance : Fnc Try.prog 44 Try.f44 := ⟨Try.func44, by kernel_rfl, by kernel_rfl⟩
instance : Fnc Try.prog 45 Try.f45 := ⟨Try.func45, by kernel_rfl, by kernel_rfl⟩
instance : Fnc Try.prog 46 Try.f46 := ⟨Try.func46, by kernel_rfl, by kernel_rfl⟩
instance : Fnc Try.prog 47 Try.f47 := ⟨Try.func47, by kernel_rfl, by kernel_rfl⟩
instance : Fnc Try.prog 48 Try.f48 := ⟨Try.func48, by kernel_rfl, by kernel_rfl⟩
instance : Fnc Try.prog 49 Try.f49 := ⟨Try.func49, by kernel_rfl, by kernel_rfl⟩
instance : Fnc Try.prog 50 Try.f50 := ⟨Try.func50, by kernel_rfl, by kernel_rfl⟩
instance : Fnc Try.prog 51 Try.f51 := ⟨Try.func51, by kernel_rfl, by kernel_rfl⟩
instance : Fnc Try.prog 52 Try.f52 := ⟨Try.func52, by kernel_rfl, by kernel_rfl⟩
instance : Fnc Try.prog 53 Try.f53 := ⟨Try.func53, by kernel_rfl, by kernel_rfl⟩
instance : Fnc Try.prog 54 Try.f54 := ⟨Try.func54, by kernel_rfl, by kernel_rfl⟩
instance : Fnc Try.prog 55 Try.f55 := ⟨Try.func55, by kernel_rfl, by kernel_rfl⟩
instance : Fnc Try.prog 56 Try.f56 := ⟨Try.func56, by kernel_rfl, by kernel_rfl⟩
instance : Fnc Try.prog 57 Try.f57 := ⟨Try.func57, by kernel_rfl, by kernel_rfl⟩
instance : Fnc Try.prog 58 Try.f58 := ⟨Try.func58, by kernel_rfl, by kernel_rfl⟩
instance : Fnc Try.prog 59 Try.f59 := ⟨Try.func59, by kernel_rfl, by kernel_rfl⟩
instance : Fnc Try.prog 60 Try.f60 := ⟨Try.func60, by kernel_rfl, by kernel_rfl⟩
instance : Fnc Try.prog 61 Try.f61 := ⟨Try.func61, by kernel_rfl, by kernel_rfl⟩
instance : Fnc Try.prog 62 Try.f62 := ⟨Try.func62, by kernel_rfl, by kernel_rfl⟩
instance : Fnc Try.prog 63 Try.f63 := ⟨Try.func63, by kernel_rfl, by kernel_rfl⟩
instance : Fnc Try.prog 64 Try.f64 := ⟨Try.func64, by kernel_rfl, by kernel_rfl⟩
instance : Fnc Try.prog 65 Try.f65 := ⟨Try.func65, by kernel_rfl, by kernel_rfl⟩
instance : Fnc Try.prog 66 Try.f66 := ⟨Try.func66, by kernel_rfl, by kernel_rfl⟩
instance : Fnc Try.prog 67 Try.f67 := ⟨Try.func67, by kernel_rfl, by kernel_rfl⟩
instance : Fnc Try.prog 68 Try.f68 := ⟨Try.func68, by kernel_rfl, by kernel_rfl⟩
instance : Fnc Try.prog 69 Try.f69 := ⟨Try.func69, by kernel_rfl, by kernel_rfl⟩
instance : Fnc Try.prog 70 Try.f70 := ⟨Try.func70, by kernel_rfl, by kernel_rfl⟩
instance : Fnc Try.prog 71 Try.f71 := ⟨Try.func71, by kernel_rfl, by kernel_rfl⟩
instance : Fnc Try.prog 72 Try.f72 := ⟨Try.func72, by kernel_rfl, by kernel_rfl⟩
instance : Fnc Try.prog 73 Try.f73 := ⟨Try.func73, by kernel_rfl, by kernel_rfl⟩
instance : Fnc Try.prog 74 Try.f74 := ⟨Try.func74, by kernel_rfl, by kernel_rfl⟩
instance : Fnc Try.prog 75 Try.f75 := ⟨Try.func75, by kernel_rfl, by kernel_rfl⟩
instance : Fnc Try.prog 76 Try.f76 := ⟨Try.func76, by kernel_rfl, by kernel_rfl⟩
instance : Fnc Try.prog 77 Try.f77 := ⟨Try.func77, by kernel_rfl, by kernel_rfl⟩
instance : Fnc Try.prog 78 Try.f78 := ⟨Try.func78, by kernel_rfl, by kernel_rfl⟩
instance : Fnc Try.prog 79 Try.f79 := ⟨Try.func79, by kernel_rfl, by kernel_rfl⟩
instance : Fnc Try.prog 80 Try.f80 := ⟨Try.func80, by kernel_rfl, by kernel_rfl⟩
instance : Fnc Try.prog 81 Try.f81 := ⟨Try.func81, by kernel_rfl, by kernel_rfl⟩
instance : Fnc Try.prog 82 Try.f82 := ⟨Try.func82, by kernel_rfl, by kernel_rfl⟩
instance : Fnc Try.prog 83 Try.f83 := ⟨Try.func83, by kernel_rfl, by kernel_rfl⟩
instance : Fnc Try.prog 84 Try.f84 := ⟨Try.func84, by kernel_rfl, by kernel_rfl⟩
instance : Fnc Try.prog 85 Try.f85 := ⟨Try.func85, by kernel_rfl, by kernel_rfl⟩
instance : Fnc Try.prog 86 Try.f86 := ⟨Try.func86, by kernel_rfl, by kernel_rfl⟩
instance : Fnc Try.prog 87 Try.f87 := ⟨Try.func87, by kernel_rfl, by kernel_rfl⟩
instance : Fnc Try.prog 88 Try.f88 := ⟨Try.func88, by kernel_rfl, by kernel_rfl⟩
instance : Fnc Try.prog 89 Try.f89 := ⟨Try.func89, by kernel_rfl, by kernel_rfl⟩
instance : Fnc Try.prog 90 Try.f90 := ⟨Try.func90, by kernel_rfl, by kernel_rfl⟩
instance : Fnc Try.prog 91 Try.f91 := ⟨Try.func91, by kernel_rfl, by kernel_rfl⟩
instance : Fnc Try.prog 92 Try.f92 := ⟨Try.func92, by kernel_rfl, by kernel_rfl⟩
instance : Fnc Try.prog 93 Try.f93 := ⟨Try.func93, by kernel_rfl, by kernel_rfl⟩
instance : Fnc Try.prog 94 Try.f94 := ⟨Try.func94, by kernel_rfl, by kernel_rfl⟩
instance : Fnc Try.prog 95 Try.f95 := ⟨Try.func95, by kernel_rfl, by kernel_rfl⟩
instance : Fnc Try.prog 96 Try.f96 := ⟨Try.func96, by kernel_rfl, by kernel_rfl⟩
instance : Fnc Try.prog 97 Try.f97 := ⟨Try.func97, by kernel_rfl, by kernel_rfl⟩
instance : Fnc Try.prog 98 Try.f98 := ⟨Try.func98, by kernel_rfl, by kernel_rfl⟩
instance : Fnc Try.prog 99 Try.f99 := ⟨Try.func99, by kernel_rfl, by kernel_rfl⟩
instance : Fnc Try.prog 100 Try.f100 := ⟨Try.func100, by kernel_rfl, by kernel_rfl⟩
instance : Fnc Try.prog 101 Try.f101 := ⟨Try.func101, by kernel_rfl, by kernel_rfl⟩
instance : Fnc Try.prog 102 Try.f102 := ⟨Try.func102, by kernel_rfl, by kernel_rfl⟩
instance : Fnc Try.prog 103 Try.f103 := ⟨Try.func103, by kernel_rfl, by kernel_rfl⟩
theorem mixed : Try.prog.follows .mixedOrders = true := by kernel_rfl
end K
end Go.Proofs.Ytbcpabfemejlgaa
/- The walk's own small logic, seventh part: going over a text. -/
namespace Go.Proofs.Ytbcpabfemejlgaa
namespace K

def si (b : Nat) (s : ByteArray) (pos : Nat) : It where
  foot := fun k => k = b
  holds := fun w => w.heap[b]? = some (.stringIter s pos)
  keep := fun w w' h hk => (hk b rfl).trans h
  live := fun w k h hk => by subst hk; exact (Array.getElem?_eq_some_iff.1 h).1

section
variable {P : Program} {e : Env} {w : World} {d : Option Nat} {ty : Nat} {pos : String} {af : Array Edge} {g : Option (Nat × Bool)} {K : Value → World → Prop}
variable {w0 : World} {F0 : Nat → Prop} {L : List It}
theorem r_ixs {t : Nat} {x y : Operand} {k : IntKind} {i : Int} {l : List UInt8} [h : TStr P t] (hx : ev e x = str l) (hy : ev e y = .int k i) (h0 : 0 ≤ i) (h1 : i < l.length) :
    (execOp (ev e) ⟨d, .index t x y, ty, pos, af, g⟩).run P w = .ok (.value (u8 (l.getD i.toNat 0))) w := by
  have h2 := run_index_string (P := P) (w := w) t ⟨l.toArray⟩ k i h.h
  have hs : (⟨l.toArray⟩ : ByteArray).size = l.length := by simp [ByteArray.size]
  rw [dif_pos ⟨h0, by rw [hs]; exact h1⟩] at h2
  simp only [execOp, hx, hy, str, Sem.run_bind, h2, Result.andThen_ok, Sem.run_pure]
  have h3 : i.toNat < l.length := by omega
  have : l.getD i.toNat 0 = l[i.toNat] := by simp [List.getD, h3]
  rw [this]
  rfl
theorem r_cat {t t' : Nat} {x y : Operand} {l m : List UInt8} (hx : ev e x = str l) (hy : ev e y = str m) (hl : l.length + m.length ≤ 9223372036854775807) : (execOp (ev e) ⟨d, .binOp .add t x y t', ty, pos, af, g⟩).run P w = .ok (.value (str (l ++ m))) w := by
  have : (⟨l.toArray⟩ : ByteArray) ++ ⟨m.toArray⟩ = ⟨(l ++ m).toArray⟩ := by
    apply ByteArray.ext
    simp
  have h2 : (l.length : Int) + m.length ≤ 9223372036854775807 := by omega
  simp [execOp, hx, hy, str, eqGuard, binOp, Op.stringOp, this, ByteArray.size, maxLen]
  omega
theorem o_rg {t : Nat} {x : Operand} {l : List UInt8} [h : TStr P t] (m : Mem w0 F0 w L) (hx : ev e x = str l) (hK : ∀ b w', Mem w0 F0 w' (L ++ [si b ⟨l.toArray⟩ 0]) → K (.pointer (some ⟨b, 0, none⟩)) w') : OwpE P ⟨d, .range t x, ty, pos, af, g⟩ e w K := by
  unfold OwpE
  simp only [execOp, hx, str, Instr.range, Sem.run_bind, run_underlying h.h, Result.andThen_ok, Sem.run_pure, run_newObj]
  exact hK _ _ (m.add (Chg.alloc No w _) (heap_alloc_new w _) (fun b hb => by cases hb; exact Nat.le_refl _))
theorem o_nx0 {x : Operand} {b p : Nat} {l : List UInt8} (m : Mem w0 F0 w L) (k : Nat) (hk : nth L k = some (si b ⟨l.toArray⟩ p)) (hx : ev e x = .pointer (some ⟨b, 0, none⟩)) (hp : l.length ≤ p) (hK : K (.tuple #[.bool false]) w) : OwpE P ⟨d, .next x true, ty, pos, af, g⟩ e w K := by
  have hb : w.heap[b]? = some (.stringIter ⟨l.toArray⟩ p) := m.ok k _ hk
  unfold OwpE
  simp only [execOp, hx, Instr.next, Sem.run_bind, getObj, Sem.run, hb, Result.andThen_ok]
  have : ¬ p < (⟨l.toArray⟩ : ByteArray).size := by simp [ByteArray.size]; omega
  rw [if_neg this]
  exact hK
theorem chg_setObj {b : Nat} {o : Obj} : Chg (fun k => k = b) w { w with heap := w.heap.setIfInBounds b o } :=
  ⟨rfl, rfl, rfl, by simp, fun k _ hk => by simp only; rw [Array.getElem?_setIfInBounds_ne (Ne.symm hk)]⟩
theorem o_nx1 {x : Operand} {b p : Nat} {l : List UInt8} (m : Mem w0 F0 w L) (k : Nat) (hk : nth L k = some (si b ⟨l.toArray⟩ p)) (hx : ev e x = .pointer (some ⟨b, 0, none⟩)) (hp : p < l.length)
    (hK : ∀ w', Mem w0 F0 w' (setN L k (si b ⟨l.toArray⟩ (p + (Utf8.decode ⟨l.toArray⟩ p).2))) → K (.tuple #[.bool true, .int .i64 p, .int .i32 (Utf8.decode ⟨l.toArray⟩ p).1]) w') : OwpE P ⟨d, .next x true, ty, pos, af, g⟩ e w K := by
  have hb : w.heap[b]? = some (.stringIter ⟨l.toArray⟩ p) := m.ok k _ hk
  have hlt : b < w.heap.size := (Array.getElem?_eq_some_iff.1 hb).1
  unfold OwpE
  simp only [execOp, hx, Instr.next, Sem.run_bind, getObj, setObj, Sem.run, hb, Result.andThen_ok]
  have : p < (⟨l.toArray⟩ : ByteArray).size := by simp [ByteArray.size]; omega
  rw [if_pos this]
  simp only [Sem.run_bind, Sem.run, hb, Result.andThen_ok]
  refine hK _ (m.turn k hk chg_setObj ?_ (fun c hc => .inl hc))
  show (w.heap.setIfInBounds b _)[b]? = _
  simp [hlt]
end
theorem size_l (l : List UInt8) : (⟨l.toArray⟩ : ByteArray).size = l.length := by simp [ByteArray.size]
theorem decode_low (l : List UInt8) (p : Nat) (h : p < l.length) (ha : l[p].toNat < 128) : Utf8.decode ⟨l.toArray⟩ p = (l[p].toNat, 1) :=
  decode_ascii ⟨l.toArray⟩ p (by rw [size_l]; exact h) ha
theorem decode_hi (l : List UInt8) (p : Nat) (h : p < l.length) (ha : 128 ≤ l[p].toNat) : 128 ≤ (Utf8.decode ⟨l.toArray⟩ p).1 :=
  (decode_high ⟨l.toArray⟩ p (by rw [size_l]; exact h) ha).1
end K
end Go.Proofs.Ytbcpabfemejlgaa
/- What the functions of varint, clock, text, event come to: walks. -/
namespace Go.Proofs.Ytbcpabfemejlgaa
open K
set_option maxRecDepth 100000

theorem c_tLabel (n : Int) (w : World) : Cl Try.prog 102 #[.int .i64 n] w (fun v w' => v = .int .i64 (tLabel n) ∧ Chg No w w') := by
  refine f_enter (args := [_]) Try.func102 rfl rfl ?_
  refine c_sreg rfl ?_
  refine s1 (r_asi rfl) ?_
  refine wn ?_
  refine c_seq ?_
  refine c_sreg rfl ?_
  refine s1 (r_mvi rfl) ?_
  refine s1 (r_lt rfl rfl) ?_
  refine s1 (r_mvb rfl) ?_
  refine sF rfl rfl (fun h => r_mvi rfl) ?_
  refine sF rfl rfl (fun h => r_ge (sel_t h :) rfl) ?_
  refine s1 (r_or rfl rfl) ?_
  refine wn ?_
  refine c_cond rfl (fun h => ?_) (fun h => (c_skip (t_n ?_)))
  · refine c_sreg rfl ?_
    refine s1 (r_asi rfl) ?_
    refine wn ?_
    refine c_ret (ret1 rfl rfl ⟨congrArg (Value.int .i64) ?_, Chg.refl _ _⟩)
    simp at h
    exact (if_neg (by omega)).symm
  · refine c_sreg rfl ?_
    refine s1 (r_asi rfl) ?_
    refine wn ?_
    refine c_ret (ret1 rfl rfl ⟨congrArg (Value.int .i64) ?_, Chg.refl _ _⟩)
    simp at h
    exact (if_pos (by omega)).symm

theorem c_tValue (s : List UInt8) (w : World) : Cl Try.prog 103 #[str s] w (fun v w' => v = .int .i64 (tValue s) ∧ Chg No w w') := by
  refine f_enter (args := [_]) Try.func103 rfl rfl ?_
  refine c_sreg rfl ?_
  refine s1 (r_asi rfl) ?_
  refine wn ?_
  refine c_seq ?_
  refine c_sreg rfl ?_
  refine s1 (r_mvt rfl) ?_
  refine s1 (r_slen rfl) ?_
  refine s1 (r_lt rfl rfl) ?_
  refine s1 (r_mvb rfl) ?_
  refine sF rfl rfl (fun h => r_mvt rfl) ?_
  refine sF rfl rfl (fun h => r_slen (sel_t h :)) ?_
  refine sF rfl rfl (fun h => r_gt (sel_t h :) rfl) ?_
  refine s1 (r_or rfl rfl) ?_
  refine wn ?_
  refine c_cond rfl (fun h => ?_) (fun h => (c_skip (t_n ?_)))
  · refine c_sreg rfl ?_
    refine s1 (r_asi rfl) ?_
    refine wn ?_
    refine c_ret (ret1 rfl rfl ⟨congrArg (Value.int .i64) ?_, Chg.refl _ _⟩)
    simp at h
    exact (if_neg (by omega)).symm
  · refine c_sreg rfl ?_
    refine s1 (r_asi rfl) ?_
    refine wn ?_
    refine c_ret (ret1 rfl rfl ⟨congrArg (Value.int .i64) ?_, Chg.refl _ _⟩)
    simp at h
    exact (if_pos (by omega)).symm

theorem c_tBare (x : Ed) (w : World) : Cl Try.prog 101 #[.agg (edC x).toArray] w (fun v w' => v = .int .i64 (tBare x) ∧ Chg No w w') := by
  refine f_enter (args := [_]) Try.func101 rfl rfl ?_
  have mm := Mem.nil No w
  refine c_sreg rfl ?_
  refine so (o_bxa mm rfl fun b2 w2 mm => ?_)
  refine s1 (r_asi rfl) ?_
  refine wn ?_
  refine c_seq ?_
  refine c_block ?_
  refine c_sreg rfl ?_
  refine s1 (r_fa rfl) ?_
  refine s1 (r_ld rfl (mm.b 0 rfl) rfl) ?_
  refine s1 (r_ne rfl rfl) ?_
  refine s1 (r_asb rfl) ?_
  refine wn ?_
  refine c_cond rfl (fun h => ?_) (fun h => ?_)
  · refine c_sreg rfl ?_
    refine s1 (r_asi rfl) ?_
    refine wn ?_
    refine c_ret (ret1 rfl rfl ⟨congrArg (Value.int .i64) ?_, mm.chg⟩)
    simp at h
    exact (if_pos h).symm
  · refine c_sreg rfl ?_
    refine s1 (r_fa rfl) ?_
    refine s1 (r_ld rfl (mm.b 0 rfl) rfl) ?_
    refine s1 (r_sne rfl rfl) ?_
    refine s1 (r_asb rfl) ?_
    refine wn ?_
    refine c_cond rfl (fun h2 => ?_) (fun h2 => (c_skip (b_n (t_n ?_))))
    · refine c_sreg rfl ?_
      refine s1 (r_asi rfl) ?_
      refine wn ?_
      refine c_ret (ret1 rfl rfl ⟨congrArg (Value.int .i64) ?_, mm.chg⟩)
      simp at h h2
      exact ((if_neg (by omega)).trans (if_pos h2)).symm
    · refine c_sreg rfl ?_
      refine s1 (r_asi rfl) ?_
      refine wn ?_
      refine c_ret (ret1 rfl rfl ⟨congrArg (Value.int .i64) ?_, mm.chg⟩)
      simp at h h2
      exact ((if_neg (by omega)).trans (if_neg (by simp [h2]))).symm
theorem c_tKey (s : List UInt8) (w : World) : Cl Try.prog 84 #[str s] w (fun v w' => v = .int .i64 (tKey s) ∧ Chg No w w') := by
  refine f_enter (args := [_]) Try.func84 rfl rfl ?_
  have mm := Mem.nil No w
  refine c_sreg rfl ?_
  refine s1 (r_asi rfl) ?_
  refine wn ?_
  refine c_seq ?_
  refine c_sreg rfl ?_
  refine s1 (r_mvt rfl) ?_
  refine s1 (r_slen rfl) ?_
  refine s1 (r_lt rfl rfl) ?_
  refine s1 (r_mvb rfl) ?_
  refine sF rfl rfl (fun h => r_mvt rfl) ?_
  refine sF rfl rfl (fun h => r_slen (sel_t h :)) ?_
  refine sF rfl rfl (fun h => r_gt (sel_t h :) rfl) ?_
  refine s1 (r_or rfl rfl) ?_
  refine wn ?_
  refine c_cond rfl (fun h => ?_) (fun h => (c_skip (t_n ?_)))
  · refine c_sreg rfl ?_
    refine s1 (r_asi rfl) ?_
    refine wn ?_
    refine c_ret (ret1 rfl rfl ⟨congrArg (Value.int .i64) ?_, mm.chg⟩)
    simp at h
    exact (if_neg (by simp [keyOk]; omega)).symm
  have hl : 1 ≤ s.length ∧ s.length ≤ 8 := by simp at h; omega
  clear h
  refine c_seq ?_
  refine c_sreg rfl ?_
  refine s1 (r_mvt rfl) ?_
  refine so (o_rg mm rfl fun b2 w2 mm => ?_)
  refine wn ?_
  refine c_block ?_
  refine c_loop (fun k e w' => ∃ p, k + p = s.length ∧ e 14 = .pointer (some ⟨b2, 0, none⟩) ∧ Mem w No w' [si b2 ⟨s.toArray⟩ p] ∧ (s.take p).all okByte = true) s.length ?_ ?_
  · exact ⟨0, by omega, rfl, mm, rfl⟩
  rintro k e w3 ⟨p, hkp, h14, mm, hall⟩
  by_cases hp : p < s.length
  · have htk : s.take (p + 1) = s.take p ++ [s[p]] := by rw [List.take_succ_eq_append_getElem hp]
    refine c_sreg rfl ?_
    refine so (o_nx1 mm 0 rfl h14 hp fun w4 mm => ?_)
    refine s1 (r_extb rfl rfl) ?_
    refine wn ?_
    refine c_seq ?_
    refine c_cond rfl (fun _h => (c_skip (t_n ?_))) (fun _h => (c_exit (t_x (t_x (b_x (t_n ?_))))))
    rotate_left
    · cases _h
    refine c_block ?_
    refine c_sreg rfl ?_
    refine s1 (r_exti rfl rfl) ?_
    refine s1 (r_asi rfl) ?_
    refine wn ?_
    refine c_sreg rfl ?_
    refine s1 (r_mvi rfl) ?_
    refine s1 (r_lt rfl rfl) ?_
    refine s1 (r_mvb rfl) ?_
    refine sF rfl rfl (fun h => r_mvi rfl) ?_
    refine sF rfl rfl (fun h => r_gt (sel_t h :) rfl) ?_
    refine s1 (r_or rfl rfl) ?_
    refine wn ?_
    refine c_cond rfl (fun h => ?_) (fun h => (c_skip (b_n (t_n ?_))))
    · refine c_sreg rfl ?_
      refine s1 (r_asi rfl) ?_
      refine wn ?_
      refine c_ret (ret1 rfl rfl ⟨congrArg (Value.int .i64) ?_, mm.chg⟩)
      refine (if_neg ?_).symm
      intro hk
      simp only [keyOk, Bool.and_eq_true, List.all_eq_true] at hk
      have hb := hk.2 s[p] (List.getElem_mem hp)
      simp only [okByte, Bool.and_eq_true, decide_eq_true_eq] at hb
      rw [decode_low s p hp (by omega)] at h
      simp at h
      omega
    · refine ⟨k - (Utf8.decode ⟨s.toArray⟩ p).2, ?_, p + (Utf8.decode ⟨s.toArray⟩ p).2, ?_, h14, mm, ?_⟩
      all_goals
        have hb : s[p].toNat < 128 := by
          rcases Nat.lt_or_ge s[p].toNat 128 with hb | hb
          · exact hb
          · have := decode_hi s p hp hb
            simp at h
            omega
        rw [decode_low s p hp hb] at h ⊢
        simp at h
      · omega
      · simp only; omega
      · rw [htk, List.all_append, hall]
        simp only [List.all_cons, List.all_nil, okByte, Bool.true_and, Bool.and_true, Bool.and_eq_true, decide_eq_true_eq]
        omega
  · refine c_sreg rfl ?_
    refine so (o_nx0 mm 0 rfl h14 (by omega) ?_)
    refine s1 (r_extb rfl rfl) ?_
    refine wn ?_
    refine c_seq ?_
    refine c_cond rfl (fun _h => (c_skip (t_n ?_))) (fun _h => (c_exit (t_x (t_x (b_x (t_n ?_))))))
    · cases _h
    refine c_sreg rfl ?_
    refine s1 (r_asi rfl) ?_
    refine wn ?_
    refine c_ret (ret1 rfl rfl ⟨congrArg (Value.int .i64) ?_, mm.chg⟩)
    rw [List.take_of_length_le (by omega)] at hall
    exact (if_pos (by simp [keyOk, hl, hall])).symm

theorem c_tEdit (x : Ed) (w : World) : Cl Try.prog 98 #[.agg (edC x).toArray] w (fun v w' => v = .int .i64 (tEdit x) ∧ Chg No w w') := by
  refine f_enter (args := [_]) Try.func98 rfl rfl ?_
  have mm := Mem.nil No w
  refine c_sreg rfl ?_
  refine so (o_bxa mm rfl fun b2 w2 mm => ?_)
  refine s1 (r_asi rfl) ?_
  refine wn ?_
  refine c_seq ?_
  refine c_sreg rfl ?_
  refine s1 (r_fa rfl) ?_
  refine s1 (r_ld rfl (mm.b 0 rfl) rfl) ?_
  refine s1 (r_lt rfl rfl) ?_
  refine s1 (r_mvb rfl) ?_
  refine sF rfl rfl (fun h => r_fa rfl) ?_
  refine sF rfl rfl (fun h => r_ld (sel_t h :) (mm.b 0 rfl) rfl) ?_
  refine sF rfl rfl (fun h => r_gt (sel_t h :) rfl) ?_
  refine s1 (r_or rfl rfl) ?_
  refine wn ?_
  refine c_cond rfl (fun h => ?_) (fun h => (c_skip (t_n ?_)))
  · refine c_sreg rfl ?_
    refine s1 (r_asi rfl) ?_
    refine wn ?_
    refine c_ret (ret1 rfl rfl ⟨congrArg (Value.int .i64) ?_, mm.chg⟩)
    simp at h
    exact (if_pos h).symm
  have h1 : ¬ (x.kind < 1 ∨ 5 < x.kind) := by simp at h; omega
  clear h
  refine c_seq ?_
  refine c_sreg rfl ?_
  refine s1 (r_fa rfl) ?_
  refine s1 (r_ld rfl (mm.b 0 rfl) rfl) ?_
  refine so (o_c1 rfl (c_tKey x.key _) ?_)
  rintro _ w3 ⟨rfl, hc⟩
  have mm := mm.frame hc
  refine s1 (r_asi rfl) ?_
  refine wn ?_
  refine c_sreg rfl ?_
  refine s1 (r_mvi rfl) ?_
  refine s1 (r_ne rfl rfl) ?_
  refine wn ?_
  refine c_cond rfl (fun h => ?_) (fun h => (c_skip (t_n ?_)))
  · refine c_sreg rfl ?_
    refine s1 (r_mvi rfl) ?_
    refine s1 (r_asi rfl) ?_
    refine wn ?_
    refine c_ret (ret1 rfl rfl ⟨congrArg (Value.int .i64) ?_, mm.chg⟩)
    simp at h
    exact ((if_neg h1).trans (if_pos h)).symm
  have h2 : ¬ tKey x.key ≠ 0 := by simp at h; simp [h]
  clear h
  refine c_seq ?_
  refine c_sreg rfl ?_
  refine s1 (r_fa rfl) ?_
  refine s1 (r_ld rfl (mm.b 0 rfl) rfl) ?_
  refine s1 (r_le rfl rfl) ?_
  refine wn ?_
  refine c_cond rfl (fun h => ?_) (fun h => (c_skip (t_n ?_)))
  · refine c_sreg rfl ?_
    refine s1 (r_lda rfl (mm.b 0 rfl) rfl) ?_
    refine so (o_c1 rfl (c_tBare x _) ?_)
    rintro _ w4 ⟨rfl, hc⟩
    have mm := mm.frame hc
    refine s1 (r_asi rfl) ?_
    refine wn ?_
    refine c_ret (ret1 rfl rfl ⟨congrArg (Value.int .i64) ?_, mm.chg⟩)
    simp at h
    exact ((if_neg h1).trans ((if_neg h2).trans (if_pos h))).symm
  have h3 : ¬ x.kind ≤ 2 := by simp at h; omega
  clear h
  refine c_seq ?_
  refine c_sreg rfl ?_
  refine s1 (r_fa rfl) ?_
  refine s1 (r_ld rfl (mm.b 0 rfl) rfl) ?_
  refine so (o_c1 rfl (c_tLabel x.label _) ?_)
  rintro _ w5 ⟨rfl, hc⟩
  have mm := mm.frame hc
  refine s1 (r_asi rfl) ?_
  refine wn ?_
  refine c_sreg rfl ?_
  refine s1 (r_mvi rfl) ?_
  refine s1 (r_ne rfl rfl) ?_
  refine wn ?_
  refine c_cond rfl (fun h => ?_) (fun h => (c_skip (t_n ?_)))
  · refine c_sreg rfl ?_
    refine s1 (r_mvi rfl) ?_
    refine s1 (r_asi rfl) ?_
    refine wn ?_
    refine c_ret (ret1 rfl rfl ⟨congrArg (Value.int .i64) ?_, mm.chg⟩)
    simp at h
    exact ((if_neg h1).trans ((if_neg h2).trans ((if_neg h3).trans (if_pos h)))).symm
  have h4 : ¬ tLabel x.label ≠ 0 := by simp at h; simp [h]
  clear h
  refine c_sreg rfl ?_
  refine s1 (r_fa rfl) ?_
  refine s1 (r_ld rfl (mm.b 0 rfl) rfl) ?_
  refine so (o_c1 rfl (c_tValue x.val _) ?_)
  rintro _ w6 ⟨rfl, hc⟩
  have mm := mm.frame hc
  refine s1 (r_asi rfl) ?_
  refine wn ?_
  refine c_ret (ret1 rfl rfl ⟨congrArg (Value.int .i64) ?_, mm.chg⟩)
  exact ((if_neg h1).trans ((if_neg h2).trans ((if_neg h3).trans (if_neg h4)))).symm

theorem c_may (x : Ev) (w : World) : Cl Try.prog 75 #[.agg (evC x).toArray] w (fun v w' => v = .int .i64 (evMay x) ∧ Chg No w w') := by
  refine f_enter (args := [_]) Try.func75 rfl rfl ?_
  have mm := Mem.nil No w
  refine c_sreg rfl ?_
  refine so (o_bxa mm rfl fun b2 w2 mm => ?_)
  refine s1 (r_asi rfl) ?_
  refine wn ?_
  refine c_seq ?_
  refine c_sdraw mixed [(0, true), (1, true), (2, true), (3, true), (4, true), (5, true), (6, true), (7, true), (8, true), (9, true), (10, true), (11, true), (12, true), (13, true), (14, true), (15, true), (16, true), (17, true), (18, true), (19, true), (20, true), (21, true), (22, true), (23, true), (24, true), (25, true), (26, true), (27, true), (28, true), (29, true), (30, true), (31, true), (32, true), (33, true), (34, true), (35, true), (36, true), (37, true), (38, true)] [true, true, true, true, true, true, true, true, true, true, true, true, true, true, true, true, true, true, true, true, true, true, true, true, true, true, true, true, true, true, true, true, true, true, true, true, true, true, true] (Sof mm) (by kernel_rfl) rfl rfl (by kernel_rfl) (fun w3 hc => ?_)
  have mm := mm.frame hc
  refine p1 rfl (fun w m => r_fa rfl) mm ?_
  refine p1 rfl (fun w m => r_ld rfl (m.b 0 rfl) rfl) mm ?_
  refine p1 rfl (fun w m => r_lt rfl rfl) mm ?_
  refine p1 rfl (fun w m => r_mvb rfl) mm ?_
  refine pF rfl rfl rfl (fun h w m => r_fa rfl) mm ?_
  refine pF rfl rfl rfl (fun h w m => r_ld (sel_t h :) (m.b 0 rfl) rfl) mm ?_
  refine pF rfl rfl rfl (fun h w m => r_ge (sel_t h :) rfl) mm ?_
  refine p1 rfl (fun w m => r_or rfl rfl) mm ?_
  refine p1 rfl (fun w m => r_mvb rfl) mm ?_
  refine pF rfl rfl rfl (fun h w m => r_fa rfl) mm ?_
  refine pF rfl rfl rfl (fun h w m => r_ld (sel_t h :) (m.b 0 rfl) rfl) mm ?_
  refine pF rfl rfl rfl (fun h w m => r_lt (sel_t h :) rfl) mm ?_
  refine p1 rfl (fun w m => r_or rfl rfl) mm ?_
  refine p1 rfl (fun w m => r_mvb rfl) mm ?_
  refine pF rfl rfl rfl (fun h w m => r_fa rfl) mm ?_
  refine pF rfl rfl rfl (fun h w m => r_ld (sel_t h :) (m.b 0 rfl) rfl) mm ?_
  refine pF rfl rfl rfl (fun h w m => r_gt (sel_t h :) rfl) mm ?_
  refine p1 rfl (fun w m => r_or rfl rfl) mm ?_
  refine p1 rfl (fun w m => r_mvb rfl) mm ?_
  refine pF rfl rfl rfl (fun h w m => r_fa rfl) mm ?_
  refine pF rfl rfl rfl (fun h w m => r_ld (sel_t h :) (m.b 0 rfl) rfl) mm ?_
  refine pF rfl rfl rfl (fun h w m => r_fa rfl) mm ?_
  refine pF rfl rfl rfl (fun h w m => r_ixa (sel_t h :) (sel_t h :) (by simp at h; omega) (by simp at h; omega)) mm ?_
  refine pF rfl rfl rfl (fun h w m => r_ld (sel_t h :) (m.b 0 rfl) (by simp only [Nat.mul_one, Nat.zero_add]; exact nth_evc x _ (by simp at h; omega))) mm ?_
  refine pF rfl rfl rfl (fun h w m => r_fa rfl) mm ?_
  refine pF rfl rfl rfl (fun h w m => r_ld (sel_t h :) (m.b 0 rfl) rfl) mm ?_
  refine pF rfl rfl rfl (fun h w m => r_sub (sel_t h :) rfl (wi (by simp at h; omega) (by simp at h; omega))) mm ?_
  refine pF rfl rfl rfl (fun h w m => r_ne (sel_t h :) (sel_t h :)) mm ?_
  refine p1 rfl (fun w m => r_or rfl rfl) mm ?_
  refine p1 rfl (fun w m => r_mvb rfl) mm ?_
  refine pF rfl rfl rfl (fun h w m => r_fa rfl) mm ?_
  refine pF rfl rfl rfl (fun h w m => r_ld (sel_t h :) (m.b 0 rfl) rfl) mm ?_
  refine pF rfl rfl rfl (fun h w m => r_lt (sel_t h :) rfl) mm ?_
  refine p1 rfl (fun w m => r_or rfl rfl) mm ?_
  refine p1 rfl (fun w m => r_mvb rfl) mm ?_
  refine pF rfl rfl rfl (fun h w m => r_fa rfl) mm ?_
  refine pF rfl rfl rfl (fun h w m => r_ld (sel_t h :) (m.b 0 rfl) rfl) mm ?_
  refine pF rfl rfl rfl (fun h w m => r_gt (sel_t h :) rfl) mm ?_
  refine p1 rfl (fun w m => r_or rfl rfl) mm ?_
  refine pn ?_
  refine c_cond rfl (fun h => ?_) (fun h => (c_skip (t_n ?_)))
  · refine c_sreg rfl ?_
    refine s1 (r_asi rfl) ?_
    refine wn ?_
    refine c_ret (ret1 rfl rfl ⟨congrArg (Value.int .i64) ?_, mm.chg⟩)
    refine (if_neg ?_).symm
    intro hh
    simp only [evHead, Bool.and_eq_true, decide_eq_true_eq] at hh
    simp at h
    omega
  have hd : 0 ≤ x.r ∧ x.r < 5 ∧ 1 ≤ x.n ∧ x.n ≤ 1048576 ∧ x.c.get x.r.toNat = x.n - 1 ∧ 1 ≤ x.h ∧ x.h ≤ 16777216 := by simp at h; omega
  clear h
  refine c_seq ?_
  refine c_sreg rfl ?_
  refine s1 (r_fa rfl) ?_
  refine s1 (r_lda rfl (mm.b 0 rfl) rfl) ?_
  refine s1 (r_mvi rfl) ?_
  refine wn ?_
  refine c_block ?_
  refine c_loop (fun k e w' => ∃ i, k + i = 5 ∧ e 1 = .pointer (some ⟨b2, 0, none⟩) ∧ e 45 = .agg (clkC x.c).toArray ∧ e 46 = .int .i64 (i : Nat) ∧ Mem w No w' [bk b2 (evC x) 67] ∧ ∀ j, j < i → inEv (x.c.get j) = true) 5 ?_ ?_
  · exact ⟨0, rfl, rfl, rfl, rfl, mm, fun j hj => absurd hj (by omega)⟩
  rintro k e w9 ⟨i, hki, h1, h45, h46, mm, hall⟩
  refine c_sreg rfl ?_
  refine s1 (r_lt h46 rfl) ?_
  refine wn ?_
  refine c_seq ?_
  refine c_cond rfl (fun h => (c_skip (t_n ?_))) (fun h => (c_exit (t_x (t_x (b_x (t_n ?_))))))
  · have hi : i < 5 := by simp at h; omega
    clear h
    refine c_seq ?_
    refine c_block ?_
    refine c_sreg rfl ?_
    refine s1 (r_ixv h45 h46 (by omega) (by omega) (nth_clk x.c _ (by omega))) ?_
    refine s1 (r_asi rfl) ?_
    refine wn ?_
    refine c_sreg rfl ?_
    refine s1 (r_mvi rfl) ?_
    refine s1 (r_lt rfl rfl) ?_
    refine s1 (r_mvb rfl) ?_
    refine sF rfl rfl (fun h => r_mvi rfl) ?_
    refine sF rfl rfl (fun h => r_gt (sel_t h :) rfl) ?_
    refine s1 (r_or rfl rfl) ?_
    refine wn ?_
    refine c_cond rfl (fun h => ?_) (fun h => (c_skip (b_n (t_n ?_))))
    · refine c_sreg rfl ?_
      refine s1 (r_asi rfl) ?_
      refine wn ?_
      refine c_ret (ret1 rfl rfl ⟨congrArg (Value.int .i64) ?_, mm.chg⟩)
      refine (if_neg ?_).symm
      intro hh
      simp only [evHead, Bool.and_eq_true] at hh
      have := (Clk.all_iff _ _).1 hh.2 i hi
      simp [inEv] at this h
      omega
    refine c_region rfl ?_
    refine s1 (r_add h46 rfl (wi (by omega) (by omega))) ?_
    refine s1 (r_mvi rfl) ?_
    refine wn (t_n ?_)
    refine ⟨k - 1, by omega, i + 1, by omega, h1, h45, rfl, mm, ?_⟩
    intro j hj
    rcases Nat.lt_or_ge j i with hlt | hge
    · exact hall j hlt
    · obtain rfl : j = i := by omega
      simp [inEv] at h ⊢
      omega
  · have hi : i = 5 := by simp at h; omega
    subst hi
    have hh : evHead x = true := by
      simp only [evHead, Bool.and_eq_true, decide_eq_true_eq]
      exact ⟨⟨⟨⟨⟨⟨⟨hd.1, hd.2.1⟩, hd.2.2.1⟩, hd.2.2.2.1⟩, hd.2.2.2.2.1⟩, hd.2.2.2.2.2.1⟩, hd.2.2.2.2.2.2⟩, (Clk.all_iff _ _).2 hall⟩
    refine c_sreg rfl ?_
    refine s1 (r_fa h1) ?_
    refine s1 (r_ld rfl (mm.b 0 rfl) rfl) ?_
    refine s1 (r_fa h1) ?_
    refine s1 (r_ld rfl (mm.b 0 rfl) rfl) ?_
    refine s1 (r_fa h1) ?_
    refine s1 (r_ld rfl (mm.b 0 rfl) rfl) ?_
    refine s1 (r_fa h1) ?_
    refine s1 (r_ld rfl (mm.b 0 rfl) rfl) ?_
    refine s1 (r_bd (bi rfl (bt rfl (bi rfl (bt rfl bN)))) rfl) ?_
    refine so (o_c1 rfl (c_tEdit x.ed _) ?_)
    rintro _ w4 ⟨rfl, hc⟩
    have mm := mm.frame hc
    refine s1 (r_asi rfl) ?_
    refine wn ?_
    refine c_ret (ret1 rfl rfl ⟨congrArg (Value.int .i64) ?_, mm.chg⟩)
    exact (if_pos hh).symm
end Go.Proofs.Ytbcpabfemejlgaa

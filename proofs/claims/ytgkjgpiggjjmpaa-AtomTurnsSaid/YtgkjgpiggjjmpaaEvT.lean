/- Lemmas for the claim: walks of functions that the law calls (no condition.) -/
import Derived.Test.YtgkjgpiggjjmpaaEvQ
import Derived.Test.YtgkjgpiggjjmpaaProg
namespace Go.Proofs.Ytgkjgpiggjjmpaa.Ev
open Go
set_option maxRecDepth 100000

def AllIx (Q : Nat → Nat × Nat → Prop) : Nat → List (Nat × Nat) → Prop
  | _, [] => True
  | k, x :: l => Q k x ∧ AllIx Q (k + 1) l
theorem AllIx.get {Q : Nat → Nat × Nat → Prop} : ∀ {l : List (Nat × Nat)} {n : Nat}, AllIx Q n l → ∀ k x, l[k]? = some x → Q (n + k) x
  | [], _, _, k, x, h => by simp at h
  | a :: l, n, h, 0, x, hx => by simp at hx; subst hx; exact h.1
  | a :: l, n, h, k + 1, x, hx => by
    have := h.2.get k x (by simpa using hx)
    rwa [show n + 1 + k = n + (k + 1) by omega] at this
theorem flds_of {get : TypeId → Option TInfo} {t : Ty} {l : List (Nat × Nat)} (h : AllIx (fun k x => ∃ j, get x.2 = some j ∧ t.part (fpath k) = some (x.1, j.t) ∧ 0 < j.t.sz) 0 l) :
    ∀ k o u, l[k]? = some (o, u) → ∃ j, get u = some j ∧ t.part (fpath k) = some (o, j.t) ∧ 0 < j.t.sz := fun k o u hx => by
  have := h.get k (o, u) hx
  rwa [Nat.zero_add] at this

def i2 : TInfo := ⟨(.int .i64), [], 0, 8⟩
def i3 : TInfo := ⟨(.int .i64), [], 0, 8⟩
def i4 : TInfo := ⟨.bool, [], 0, 1⟩
def i5 : TInfo := ⟨(.int .u8), [], 0, 1⟩
def i6 : TInfo := ⟨(.int .u8), [], 0, 1⟩
def i7 : TInfo := ⟨(.pair (.int .i64) (.pair (.int .i64) (.pair .bool (.pair (.int .u8) .unit)))), [(0, 2), (1, 3), (2, 4), (3, 6)], 0, 24⟩
def i8 : TInfo := ⟨(.pair (.int .i64) (.pair (.int .i64) (.pair .bool (.pair (.int .u8) .unit)))), [(0, 2), (1, 3), (2, 4), (3, 6)], 0, 24⟩
def i9 : TInfo := ⟨.str, [], 0, 16⟩
def i10 : TInfo := ⟨.str, [], 0, 16⟩
def i11 : TInfo := ⟨.str, [], 0, 16⟩
def i12 : TInfo := ⟨(.int .u64), [], 0, 8⟩
def i13 : TInfo := ⟨(.pair .str (.pair (.int .u64) .unit)), [(0, 9), (1, 12)], 0, 24⟩
def i14 : TInfo := ⟨(.pair .str (.pair (.int .u64) .unit)), [(0, 9), (1, 12)], 0, 24⟩
def i21 : TInfo := ⟨(.int .i32), [], 0, 4⟩
def i22 : TInfo := ⟨(.sl (.pair (.int .u8) (.pair (.pair (.int .i64) (.pair (.int .i64) (.pair (.int .i64) (.pair (.int .i64) (.pair (.int .i64) (.pair (.int .i64) (.pair .bool (.pair (.int .u32) (.pair (.int .u32) .unit))))))))) (.pair (.int .u8) (.pair (.int .u8) .unit))))), [], 33, 24⟩
def i24 : TInfo := ⟨(.sl (.sl (.int .u8))), [], 47, 24⟩
def i25 : TInfo := ⟨(.pair (.sl (.sl (.int .u8))) .unit), [(0, 24)], 0, 24⟩
def i26 : TInfo := ⟨(.pair (.sl (.sl (.int .u8))) .unit), [(0, 24)], 0, 24⟩
def i27 : TInfo := ⟨(.sl (.pair (.int .i64) (.pair (.int .i64) (.pair (.int .i64) (.pair (.int .i64) (.pair (.int .i64) (.pair (.int .i64) (.pair .bool (.pair (.int .u32) (.pair (.int .u32) .unit)))))))))), [], 31, 24⟩
def i28 : TInfo := ⟨(.sl (.arr 19 (.int .u8))), [], 38, 24⟩
def i29 : TInfo := ⟨(.int .u32), [], 0, 4⟩
def i30 : TInfo := ⟨(.pair (.int .i64) (.pair (.int .i64) (.pair (.int .i64) (.pair (.int .i64) (.pair (.int .i64) (.pair (.int .i64) (.pair .bool (.pair (.int .u32) (.pair (.int .u32) .unit))))))))), [(0, 3), (1, 3), (2, 3), (3, 3), (4, 3), (5, 3), (6, 4), (7, 29), (8, 29)], 0, 64⟩
def i31 : TInfo := ⟨(.pair (.int .i64) (.pair (.int .i64) (.pair (.int .i64) (.pair (.int .i64) (.pair (.int .i64) (.pair (.int .i64) (.pair .bool (.pair (.int .u32) (.pair (.int .u32) .unit))))))))), [(0, 3), (1, 3), (2, 3), (3, 3), (4, 3), (5, 3), (6, 4), (7, 29), (8, 29)], 0, 64⟩
def i32 : TInfo := ⟨(.pair (.int .u8) (.pair (.pair (.int .i64) (.pair (.int .i64) (.pair (.int .i64) (.pair (.int .i64) (.pair (.int .i64) (.pair (.int .i64) (.pair .bool (.pair (.int .u32) (.pair (.int .u32) .unit))))))))) (.pair (.int .u8) (.pair (.int .u8) .unit)))), [(0, 5), (1, 31), (10, 5), (11, 5)], 0, 80⟩
def i33 : TInfo := ⟨(.pair (.int .u8) (.pair (.pair (.int .i64) (.pair (.int .i64) (.pair (.int .i64) (.pair (.int .i64) (.pair (.int .i64) (.pair (.int .i64) (.pair .bool (.pair (.int .u32) (.pair (.int .u32) .unit))))))))) (.pair (.int .u8) (.pair (.int .u8) .unit)))), [(0, 5), (1, 31), (10, 5), (11, 5)], 0, 80⟩
def i34 : TInfo := ⟨(.int .i64), [], 0, 8⟩
def i38 : TInfo := ⟨(.arr 19 (.int .u8)), [], 5, 19⟩
def i41 : TInfo := ⟨(.int .u64), [], 0, 8⟩
def i46 : TInfo := ⟨(.sl (.sl (.pair (.int .i64) (.pair (.int .i64) (.pair (.int .i64) (.pair (.int .i64) (.pair (.int .u32) .unit))))))), [], 69, 24⟩
def i47 : TInfo := ⟨(.sl (.int .u8)), [], 5, 24⟩
def i49 : TInfo := ⟨(.sl (.int .u32)), [], 29, 24⟩
def i50 : TInfo := ⟨(.sl (.pair (.arr 8 (.int .u32)) (.pair (.int .i64) (.pair .bool .unit)))), [], 63, 24⟩
def i51 : TInfo := ⟨(.sl (.pair (.int .i64) (.pair (.int .u32) .unit))), [], 144, 24⟩
def i52 : TInfo := ⟨(.pair (.sl (.int .u32)) (.pair (.sl (.pair (.arr 8 (.int .u32)) (.pair (.int .i64) (.pair .bool .unit)))) (.pair (.sl (.pair (.int .i64) (.pair (.int .u32) .unit))) .unit))), [(0, 49), (1, 50), (2, 51)], 0, 72⟩
def i53 : TInfo := ⟨(.pair (.sl (.int .u32)) (.pair (.sl (.pair (.arr 8 (.int .u32)) (.pair (.int .i64) (.pair .bool .unit)))) (.pair (.sl (.pair (.int .i64) (.pair (.int .u32) .unit))) .unit))), [(0, 49), (1, 50), (2, 51)], 0, 72⟩
def i56 : TInfo := ⟨(.sl (.int .i64)), [], 3, 24⟩
def i61 : TInfo := ⟨(.arr 8 (.int .u32)), [], 29, 32⟩
def i62 : TInfo := ⟨(.pair (.arr 8 (.int .u32)) (.pair (.int .i64) (.pair .bool .unit))), [(0, 61), (8, 3), (9, 4)], 0, 48⟩
def i63 : TInfo := ⟨(.pair (.arr 8 (.int .u32)) (.pair (.int .i64) (.pair .bool .unit))), [(0, 61), (8, 3), (9, 4)], 0, 48⟩
def i66 : TInfo := ⟨(.pair (.int .i64) (.pair (.int .i64) (.pair (.int .u32) (.pair (.int .u32) .unit)))), [(0, 3), (1, 3), (2, 29), (3, 29)], 0, 24⟩
def i67 : TInfo := ⟨(.pair (.int .i64) (.pair (.int .i64) (.pair (.int .u32) (.pair (.int .u32) .unit)))), [(0, 3), (1, 3), (2, 29), (3, 29)], 0, 24⟩
def i69 : TInfo := ⟨(.sl (.pair (.int .i64) (.pair (.int .i64) (.pair (.int .i64) (.pair (.int .i64) (.pair (.int .u32) .unit)))))), [], 142, 24⟩
def i80 : TInfo := ⟨(.sl (.sl (.int .u32))), [], 49, 24⟩
def i81 : TInfo := ⟨(.pair (.sl (.sl (.int .u32))) (.pair (.sl (.int .u32)) (.pair (.int .i64) .unit))), [(0, 80), (1, 49), (2, 3)], 0, 56⟩
def i82 : TInfo := ⟨(.pair (.sl (.sl (.int .u32))) (.pair (.sl (.int .u32)) (.pair (.int .i64) .unit))), [(0, 80), (1, 49), (2, 3)], 0, 56⟩
def i83 : TInfo := ⟨(.sl (.pair (.int .i64) (.pair (.int .i64) (.pair (.int .u32) .unit)))), [], 128, 24⟩
def i84 : TInfo := ⟨(.pair (.pair (.sl (.sl (.int .u32))) (.pair (.sl (.int .u32)) (.pair (.int .i64) .unit))) (.pair (.int .i64) (.pair (.int .i64) (.pair (.sl (.pair (.int .i64) (.pair (.int .i64) (.pair (.int .u32) .unit)))) .unit)))), [(0, 82), (3, 3), (4, 3), (5, 83)], 0, 96⟩
def i85 : TInfo := ⟨(.pair (.pair (.sl (.sl (.int .u32))) (.pair (.sl (.int .u32)) (.pair (.int .i64) .unit))) (.pair (.int .i64) (.pair (.int .i64) (.pair (.sl (.pair (.int .i64) (.pair (.int .i64) (.pair (.int .u32) .unit)))) .unit)))), [(0, 82), (3, 3), (4, 3), (5, 83)], 0, 96⟩
def i107 : TInfo := ⟨(.sl (.pair (.int .u8) (.pair (.int .u8) (.pair (.int .u8) (.pair (.int .u32) .unit))))), [], 109, 24⟩
def i108 : TInfo := ⟨(.pair (.int .u8) (.pair (.int .u8) (.pair (.int .u8) (.pair (.int .u32) .unit)))), [(0, 5), (1, 5), (2, 5), (3, 29)], 0, 8⟩
def i109 : TInfo := ⟨(.pair (.int .u8) (.pair (.int .u8) (.pair (.int .u8) (.pair (.int .u32) .unit)))), [(0, 5), (1, 5), (2, 5), (3, 29)], 0, 8⟩
def i111 : TInfo := ⟨(.sl (.pair (.int .i64) (.pair (.int .i64) (.pair (.int .i64) (.pair (.int .u32) (.pair (.int .u32) .unit)))))), [], 113, 24⟩
def i112 : TInfo := ⟨(.pair (.int .i64) (.pair (.int .i64) (.pair (.int .i64) (.pair (.int .u32) (.pair (.int .u32) .unit))))), [(0, 3), (1, 3), (2, 3), (3, 29), (4, 29)], 0, 32⟩
def i113 : TInfo := ⟨(.pair (.int .i64) (.pair (.int .i64) (.pair (.int .i64) (.pair (.int .u32) (.pair (.int .u32) .unit))))), [(0, 3), (1, 3), (2, 3), (3, 29), (4, 29)], 0, 32⟩
def i120 : TInfo := ⟨(.pair (.sl (.int .u32)) (.pair (.int .i64) (.pair (.sl (.pair (.int .i64) (.pair (.int .i64) (.pair (.int .u32) .unit)))) .unit))), [(0, 49), (1, 3), (2, 83)], 0, 56⟩
def i121 : TInfo := ⟨(.pair (.sl (.int .u32)) (.pair (.int .i64) (.pair (.sl (.pair (.int .i64) (.pair (.int .i64) (.pair (.int .u32) .unit)))) .unit))), [(0, 49), (1, 3), (2, 83)], 0, 56⟩
def i127 : TInfo := ⟨(.pair (.int .i64) (.pair (.int .i64) (.pair (.int .u32) .unit))), [(0, 3), (1, 3), (2, 29)], 0, 24⟩
def i128 : TInfo := ⟨(.pair (.int .i64) (.pair (.int .i64) (.pair (.int .u32) .unit))), [(0, 3), (1, 3), (2, 29)], 0, 24⟩
def i134 : TInfo := ⟨(.arr 5 (.int .i64)), [], 3, 40⟩
def i141 : TInfo := ⟨(.pair (.int .i64) (.pair (.int .i64) (.pair (.int .i64) (.pair (.int .i64) (.pair (.int .u32) .unit))))), [(0, 3), (1, 3), (2, 3), (3, 3), (4, 29)], 0, 40⟩
def i142 : TInfo := ⟨(.pair (.int .i64) (.pair (.int .i64) (.pair (.int .i64) (.pair (.int .i64) (.pair (.int .u32) .unit))))), [(0, 3), (1, 3), (2, 3), (3, 3), (4, 29)], 0, 40⟩
def i143 : TInfo := ⟨(.pair (.int .i64) (.pair (.int .u32) .unit)), [(0, 3), (1, 29)], 0, 16⟩
def i144 : TInfo := ⟨(.pair (.int .i64) (.pair (.int .u32) .unit)), [(0, 3), (1, 29)], 0, 16⟩
def i208 : TInfo := ⟨(.int .u64), [], 0, 8⟩
def i220 : TInfo := ⟨(.pair (.int .i64) (.pair (.int .i64) .unit)), [(0, 3), (1, 3)], 0, 16⟩
def i221 : TInfo := ⟨(.pair (.int .i64) (.pair (.int .i64) .unit)), [(0, 3), (1, 3)], 0, 16⟩
def i225 : TInfo := ⟨(.sl .bool), [], 4, 24⟩
def i229 : TInfo := ⟨(.arr 2 (.int .i64)), [], 3, 16⟩
def i234 : TInfo := ⟨(.arr 4 (.int .u8)), [], 5, 4⟩
def i243 : TInfo := ⟨(.sl (.sl (.pair (.int .i64) (.pair (.int .i64) (.pair (.int .i64) (.pair (.int .u32) (.pair (.int .u32) .unit))))))), [], 111, 24⟩
def i261 : TInfo := ⟨(.int .u8), [], 0, 1⟩
def i262 : TInfo := ⟨(.int .u8), [], 0, 1⟩
def i265 : TInfo := ⟨(.int .i32), [], 0, 4⟩
def i266 : TInfo := ⟨(.int .i32), [], 0, 4⟩
def tget : TypeId → Option TInfo
  | 2 => some i2
  | 3 => some i3
  | 4 => some i4
  | 5 => some i5
  | 6 => some i6
  | 7 => some i7
  | 8 => some i8
  | 9 => some i9
  | 10 => some i10
  | 11 => some i11
  | 12 => some i12
  | 13 => some i13
  | 14 => some i14
  | 21 => some i21
  | 22 => some i22
  | 24 => some i24
  | 25 => some i25
  | 26 => some i26
  | 27 => some i27
  | 28 => some i28
  | 29 => some i29
  | 30 => some i30
  | 31 => some i31
  | 32 => some i32
  | 33 => some i33
  | 34 => some i34
  | 38 => some i38
  | 41 => some i41
  | 46 => some i46
  | 47 => some i47
  | 49 => some i49
  | 50 => some i50
  | 51 => some i51
  | 52 => some i52
  | 53 => some i53
  | 56 => some i56
  | 61 => some i61
  | 62 => some i62
  | 63 => some i63
  | 66 => some i66
  | 67 => some i67
  | 69 => some i69
  | 80 => some i80
  | 81 => some i81
  | 82 => some i82
  | 83 => some i83
  | 84 => some i84
  | 85 => some i85
  | 107 => some i107
  | 108 => some i108
  | 109 => some i109
  | 111 => some i111
  | 112 => some i112
  | 113 => some i113
  | 120 => some i120
  | 121 => some i121
  | 127 => some i127
  | 128 => some i128
  | 134 => some i134
  | 141 => some i141
  | 142 => some i142
  | 143 => some i143
  | 144 => some i144
  | 208 => some i208
  | 220 => some i220
  | 221 => some i221
  | 225 => some i225
  | 229 => some i229
  | 234 => some i234
  | 243 => some i243
  | 261 => some i261
  | 262 => some i262
  | 265 => some i265
  | 266 => some i266
  | _ => none
theorem ok2 : InfoOk Try.prog tget 2 i2 := ⟨⟨Try.t2, _, Try.type2, rfl, rfl, rfl, rfl, rfl⟩, Try.underlying2⟩
theorem ok3 : InfoOk Try.prog tget 3 i3 := ⟨⟨Try.t3, _, Try.type3, rfl, rfl, rfl, rfl, rfl⟩, Try.underlying3⟩
theorem ok4 : InfoOk Try.prog tget 4 i4 := ⟨⟨Try.t4, _, Try.type4, rfl, rfl, rfl, rfl, rfl⟩, Try.underlying4⟩
theorem ok5 : InfoOk Try.prog tget 5 i5 := ⟨⟨Try.t5, _, Try.type5, rfl, rfl, rfl, rfl, rfl⟩, Try.underlying5⟩
theorem ok6 : InfoOk Try.prog tget 6 i6 := ⟨⟨Try.t6, _, Try.type6, rfl, rfl, rfl, rfl, rfl⟩, Try.underlying6⟩
theorem ok7 : InfoOk Try.prog tget 7 i7 := ⟨⟨Try.t7, _, Try.type7, rfl, rfl, rfl, rfl, rfl⟩, ⟨_, Try.underlying7, rfl, flds_of ⟨⟨_, rfl, rfl, by decide⟩, ⟨_, rfl, rfl, by decide⟩, ⟨_, rfl, rfl, by decide⟩, ⟨_, rfl, rfl, by decide⟩, trivial⟩⟩⟩
theorem ok8 : InfoOk Try.prog tget 8 i8 := ⟨⟨Try.t8, _, Try.type8, rfl, rfl, rfl, rfl, rfl⟩, ⟨_, Try.underlying8, rfl, flds_of ⟨⟨_, rfl, rfl, by decide⟩, ⟨_, rfl, rfl, by decide⟩, ⟨_, rfl, rfl, by decide⟩, ⟨_, rfl, rfl, by decide⟩, trivial⟩⟩⟩
theorem ok9 : InfoOk Try.prog tget 9 i9 := ⟨⟨Try.t9, _, Try.type9, rfl, rfl, rfl, rfl, rfl⟩, Try.underlying9⟩
theorem ok10 : InfoOk Try.prog tget 10 i10 := ⟨⟨Try.t10, _, Try.type10, rfl, rfl, rfl, rfl, rfl⟩, Try.underlying10⟩
theorem ok11 : InfoOk Try.prog tget 11 i11 := ⟨⟨Try.t11, _, Try.type11, rfl, rfl, rfl, rfl, rfl⟩, Try.underlying11⟩
theorem ok12 : InfoOk Try.prog tget 12 i12 := ⟨⟨Try.t12, _, Try.type12, rfl, rfl, rfl, rfl, rfl⟩, Try.underlying12⟩
theorem ok13 : InfoOk Try.prog tget 13 i13 := ⟨⟨Try.t13, _, Try.type13, rfl, rfl, rfl, rfl, rfl⟩, ⟨_, Try.underlying13, rfl, flds_of ⟨⟨_, rfl, rfl, by decide⟩, ⟨_, rfl, rfl, by decide⟩, trivial⟩⟩⟩
theorem ok14 : InfoOk Try.prog tget 14 i14 := ⟨⟨Try.t14, _, Try.type14, rfl, rfl, rfl, rfl, rfl⟩, ⟨_, Try.underlying14, rfl, flds_of ⟨⟨_, rfl, rfl, by decide⟩, ⟨_, rfl, rfl, by decide⟩, trivial⟩⟩⟩
theorem ok21 : InfoOk Try.prog tget 21 i21 := ⟨⟨Try.t21, _, Try.type21, rfl, rfl, rfl, rfl, rfl⟩, Try.underlying21⟩
theorem ok22 : InfoOk Try.prog tget 22 i22 := ⟨⟨Try.t22, _, Try.type22, rfl, rfl, rfl, rfl, rfl⟩, ⟨Try.underlying22, _, rfl, rfl, by decide⟩⟩
theorem ok24 : InfoOk Try.prog tget 24 i24 := ⟨⟨Try.t24, _, Try.type24, rfl, rfl, rfl, rfl, rfl⟩, ⟨Try.underlying24, _, rfl, rfl, by decide⟩⟩
theorem ok25 : InfoOk Try.prog tget 25 i25 := ⟨⟨Try.t25, _, Try.type25, rfl, rfl, rfl, rfl, rfl⟩, ⟨_, Try.underlying25, rfl, flds_of ⟨⟨_, rfl, rfl, by decide⟩, trivial⟩⟩⟩
theorem ok26 : InfoOk Try.prog tget 26 i26 := ⟨⟨Try.t26, _, Try.type26, rfl, rfl, rfl, rfl, rfl⟩, ⟨_, Try.underlying26, rfl, flds_of ⟨⟨_, rfl, rfl, by decide⟩, trivial⟩⟩⟩
theorem ok27 : InfoOk Try.prog tget 27 i27 := ⟨⟨Try.t27, _, Try.type27, rfl, rfl, rfl, rfl, rfl⟩, ⟨Try.underlying27, _, rfl, rfl, by decide⟩⟩
theorem ok28 : InfoOk Try.prog tget 28 i28 := ⟨⟨Try.t28, _, Try.type28, rfl, rfl, rfl, rfl, rfl⟩, ⟨Try.underlying28, _, rfl, rfl, by decide⟩⟩
theorem ok29 : InfoOk Try.prog tget 29 i29 := ⟨⟨Try.t29, _, Try.type29, rfl, rfl, rfl, rfl, rfl⟩, Try.underlying29⟩
theorem ok30 : InfoOk Try.prog tget 30 i30 := ⟨⟨Try.t30, _, Try.type30, rfl, rfl, rfl, rfl, rfl⟩, ⟨_, Try.underlying30, rfl, flds_of ⟨⟨_, rfl, rfl, by decide⟩, ⟨_, rfl, rfl, by decide⟩, ⟨_, rfl, rfl, by decide⟩, ⟨_, rfl, rfl, by decide⟩, ⟨_, rfl, rfl, by decide⟩, ⟨_, rfl, rfl, by decide⟩, ⟨_, rfl, rfl, by decide⟩, ⟨_, rfl, rfl, by decide⟩, ⟨_, rfl, rfl, by decide⟩, trivial⟩⟩⟩
theorem ok31 : InfoOk Try.prog tget 31 i31 := ⟨⟨Try.t31, _, Try.type31, rfl, rfl, rfl, rfl, rfl⟩, ⟨_, Try.underlying31, rfl, flds_of ⟨⟨_, rfl, rfl, by decide⟩, ⟨_, rfl, rfl, by decide⟩, ⟨_, rfl, rfl, by decide⟩, ⟨_, rfl, rfl, by decide⟩, ⟨_, rfl, rfl, by decide⟩, ⟨_, rfl, rfl, by decide⟩, ⟨_, rfl, rfl, by decide⟩, ⟨_, rfl, rfl, by decide⟩, ⟨_, rfl, rfl, by decide⟩, trivial⟩⟩⟩
theorem ok32 : InfoOk Try.prog tget 32 i32 := ⟨⟨Try.t32, _, Try.type32, rfl, rfl, rfl, rfl, rfl⟩, ⟨_, Try.underlying32, rfl, flds_of ⟨⟨_, rfl, rfl, by decide⟩, ⟨_, rfl, rfl, by decide⟩, ⟨_, rfl, rfl, by decide⟩, ⟨_, rfl, rfl, by decide⟩, trivial⟩⟩⟩
theorem ok33 : InfoOk Try.prog tget 33 i33 := ⟨⟨Try.t33, _, Try.type33, rfl, rfl, rfl, rfl, rfl⟩, ⟨_, Try.underlying33, rfl, flds_of ⟨⟨_, rfl, rfl, by decide⟩, ⟨_, rfl, rfl, by decide⟩, ⟨_, rfl, rfl, by decide⟩, ⟨_, rfl, rfl, by decide⟩, trivial⟩⟩⟩
theorem ok34 : InfoOk Try.prog tget 34 i34 := ⟨⟨Try.t34, _, Try.type34, rfl, rfl, rfl, rfl, rfl⟩, Try.underlying34⟩
theorem ok38 : InfoOk Try.prog tget 38 i38 := ⟨⟨Try.t38, _, Try.type38, rfl, rfl, rfl, rfl, rfl⟩, ⟨Try.underlying38, _, rfl, rfl, by decide⟩⟩
theorem ok41 : InfoOk Try.prog tget 41 i41 := ⟨⟨Try.t41, _, Try.type41, rfl, rfl, rfl, rfl, rfl⟩, Try.underlying41⟩
theorem ok46 : InfoOk Try.prog tget 46 i46 := ⟨⟨Try.t46, _, Try.type46, rfl, rfl, rfl, rfl, rfl⟩, ⟨Try.underlying46, _, rfl, rfl, by decide⟩⟩
theorem ok47 : InfoOk Try.prog tget 47 i47 := ⟨⟨Try.t47, _, Try.type47, rfl, rfl, rfl, rfl, rfl⟩, ⟨Try.underlying47, _, rfl, rfl, by decide⟩⟩
theorem ok49 : InfoOk Try.prog tget 49 i49 := ⟨⟨Try.t49, _, Try.type49, rfl, rfl, rfl, rfl, rfl⟩, ⟨Try.underlying49, _, rfl, rfl, by decide⟩⟩
theorem ok50 : InfoOk Try.prog tget 50 i50 := ⟨⟨Try.t50, _, Try.type50, rfl, rfl, rfl, rfl, rfl⟩, ⟨Try.underlying50, _, rfl, rfl, by decide⟩⟩
theorem ok51 : InfoOk Try.prog tget 51 i51 := ⟨⟨Try.t51, _, Try.type51, rfl, rfl, rfl, rfl, rfl⟩, ⟨Try.underlying51, _, rfl, rfl, by decide⟩⟩
theorem ok52 : InfoOk Try.prog tget 52 i52 := ⟨⟨Try.t52, _, Try.type52, rfl, rfl, rfl, rfl, rfl⟩, ⟨_, Try.underlying52, rfl, flds_of ⟨⟨_, rfl, rfl, by decide⟩, ⟨_, rfl, rfl, by decide⟩, ⟨_, rfl, rfl, by decide⟩, trivial⟩⟩⟩
theorem ok53 : InfoOk Try.prog tget 53 i53 := ⟨⟨Try.t53, _, Try.type53, rfl, rfl, rfl, rfl, rfl⟩, ⟨_, Try.underlying53, rfl, flds_of ⟨⟨_, rfl, rfl, by decide⟩, ⟨_, rfl, rfl, by decide⟩, ⟨_, rfl, rfl, by decide⟩, trivial⟩⟩⟩
theorem ok56 : InfoOk Try.prog tget 56 i56 := ⟨⟨Try.t56, _, Try.type56, rfl, rfl, rfl, rfl, rfl⟩, ⟨Try.underlying56, _, rfl, rfl, by decide⟩⟩
theorem ok61 : InfoOk Try.prog tget 61 i61 := ⟨⟨Try.t61, _, Try.type61, rfl, rfl, rfl, rfl, rfl⟩, ⟨Try.underlying61, _, rfl, rfl, by decide⟩⟩
theorem ok62 : InfoOk Try.prog tget 62 i62 := ⟨⟨Try.t62, _, Try.type62, rfl, rfl, rfl, rfl, rfl⟩, ⟨_, Try.underlying62, rfl, flds_of ⟨⟨_, rfl, rfl, by decide⟩, ⟨_, rfl, rfl, by decide⟩, ⟨_, rfl, rfl, by decide⟩, trivial⟩⟩⟩
theorem ok63 : InfoOk Try.prog tget 63 i63 := ⟨⟨Try.t63, _, Try.type63, rfl, rfl, rfl, rfl, rfl⟩, ⟨_, Try.underlying63, rfl, flds_of ⟨⟨_, rfl, rfl, by decide⟩, ⟨_, rfl, rfl, by decide⟩, ⟨_, rfl, rfl, by decide⟩, trivial⟩⟩⟩
theorem ok66 : InfoOk Try.prog tget 66 i66 := ⟨⟨Try.t66, _, Try.type66, rfl, rfl, rfl, rfl, rfl⟩, ⟨_, Try.underlying66, rfl, flds_of ⟨⟨_, rfl, rfl, by decide⟩, ⟨_, rfl, rfl, by decide⟩, ⟨_, rfl, rfl, by decide⟩, ⟨_, rfl, rfl, by decide⟩, trivial⟩⟩⟩
theorem ok67 : InfoOk Try.prog tget 67 i67 := ⟨⟨Try.t67, _, Try.type67, rfl, rfl, rfl, rfl, rfl⟩, ⟨_, Try.underlying67, rfl, flds_of ⟨⟨_, rfl, rfl, by decide⟩, ⟨_, rfl, rfl, by decide⟩, ⟨_, rfl, rfl, by decide⟩, ⟨_, rfl, rfl, by decide⟩, trivial⟩⟩⟩
theorem ok69 : InfoOk Try.prog tget 69 i69 := ⟨⟨Try.t69, _, Try.type69, rfl, rfl, rfl, rfl, rfl⟩, ⟨Try.underlying69, _, rfl, rfl, by decide⟩⟩
theorem ok80 : InfoOk Try.prog tget 80 i80 := ⟨⟨Try.t80, _, Try.type80, rfl, rfl, rfl, rfl, rfl⟩, ⟨Try.underlying80, _, rfl, rfl, by decide⟩⟩
theorem ok81 : InfoOk Try.prog tget 81 i81 := ⟨⟨Try.t81, _, Try.type81, rfl, rfl, rfl, rfl, rfl⟩, ⟨_, Try.underlying81, rfl, flds_of ⟨⟨_, rfl, rfl, by decide⟩, ⟨_, rfl, rfl, by decide⟩, ⟨_, rfl, rfl, by decide⟩, trivial⟩⟩⟩
theorem ok82 : InfoOk Try.prog tget 82 i82 := ⟨⟨Try.t82, _, Try.type82, rfl, rfl, rfl, rfl, rfl⟩, ⟨_, Try.underlying82, rfl, flds_of ⟨⟨_, rfl, rfl, by decide⟩, ⟨_, rfl, rfl, by decide⟩, ⟨_, rfl, rfl, by decide⟩, trivial⟩⟩⟩
theorem ok83 : InfoOk Try.prog tget 83 i83 := ⟨⟨Try.t83, _, Try.type83, rfl, rfl, rfl, rfl, rfl⟩, ⟨Try.underlying83, _, rfl, rfl, by decide⟩⟩
theorem ok84 : InfoOk Try.prog tget 84 i84 := ⟨⟨Try.t84, _, Try.type84, rfl, rfl, rfl, rfl, rfl⟩, ⟨_, Try.underlying84, rfl, flds_of ⟨⟨_, rfl, rfl, by decide⟩, ⟨_, rfl, rfl, by decide⟩, ⟨_, rfl, rfl, by decide⟩, ⟨_, rfl, rfl, by decide⟩, trivial⟩⟩⟩
theorem ok85 : InfoOk Try.prog tget 85 i85 := ⟨⟨Try.t85, _, Try.type85, rfl, rfl, rfl, rfl, rfl⟩, ⟨_, Try.underlying85, rfl, flds_of ⟨⟨_, rfl, rfl, by decide⟩, ⟨_, rfl, rfl, by decide⟩, ⟨_, rfl, rfl, by decide⟩, ⟨_, rfl, rfl, by decide⟩, trivial⟩⟩⟩
theorem ok107 : InfoOk Try.prog tget 107 i107 := ⟨⟨Try.t107, _, Try.type107, rfl, rfl, rfl, rfl, rfl⟩, ⟨Try.underlying107, _, rfl, rfl, by decide⟩⟩
theorem ok108 : InfoOk Try.prog tget 108 i108 := ⟨⟨Try.t108, _, Try.type108, rfl, rfl, rfl, rfl, rfl⟩, ⟨_, Try.underlying108, rfl, flds_of ⟨⟨_, rfl, rfl, by decide⟩, ⟨_, rfl, rfl, by decide⟩, ⟨_, rfl, rfl, by decide⟩, ⟨_, rfl, rfl, by decide⟩, trivial⟩⟩⟩
theorem ok109 : InfoOk Try.prog tget 109 i109 := ⟨⟨Try.t109, _, Try.type109, rfl, rfl, rfl, rfl, rfl⟩, ⟨_, Try.underlying109, rfl, flds_of ⟨⟨_, rfl, rfl, by decide⟩, ⟨_, rfl, rfl, by decide⟩, ⟨_, rfl, rfl, by decide⟩, ⟨_, rfl, rfl, by decide⟩, trivial⟩⟩⟩
theorem ok111 : InfoOk Try.prog tget 111 i111 := ⟨⟨Try.t111, _, Try.type111, rfl, rfl, rfl, rfl, rfl⟩, ⟨Try.underlying111, _, rfl, rfl, by decide⟩⟩
theorem ok112 : InfoOk Try.prog tget 112 i112 := ⟨⟨Try.t112, _, Try.type112, rfl, rfl, rfl, rfl, rfl⟩, ⟨_, Try.underlying112, rfl, flds_of ⟨⟨_, rfl, rfl, by decide⟩, ⟨_, rfl, rfl, by decide⟩, ⟨_, rfl, rfl, by decide⟩, ⟨_, rfl, rfl, by decide⟩, ⟨_, rfl, rfl, by decide⟩, trivial⟩⟩⟩
theorem ok113 : InfoOk Try.prog tget 113 i113 := ⟨⟨Try.t113, _, Try.type113, rfl, rfl, rfl, rfl, rfl⟩, ⟨_, Try.underlying113, rfl, flds_of ⟨⟨_, rfl, rfl, by decide⟩, ⟨_, rfl, rfl, by decide⟩, ⟨_, rfl, rfl, by decide⟩, ⟨_, rfl, rfl, by decide⟩, ⟨_, rfl, rfl, by decide⟩, trivial⟩⟩⟩
theorem ok120 : InfoOk Try.prog tget 120 i120 := ⟨⟨Try.t120, _, Try.type120, rfl, rfl, rfl, rfl, rfl⟩, ⟨_, Try.underlying120, rfl, flds_of ⟨⟨_, rfl, rfl, by decide⟩, ⟨_, rfl, rfl, by decide⟩, ⟨_, rfl, rfl, by decide⟩, trivial⟩⟩⟩
theorem ok121 : InfoOk Try.prog tget 121 i121 := ⟨⟨Try.t121, _, Try.type121, rfl, rfl, rfl, rfl, rfl⟩, ⟨_, Try.underlying121, rfl, flds_of ⟨⟨_, rfl, rfl, by decide⟩, ⟨_, rfl, rfl, by decide⟩, ⟨_, rfl, rfl, by decide⟩, trivial⟩⟩⟩
theorem ok127 : InfoOk Try.prog tget 127 i127 := ⟨⟨Try.t127, _, Try.type127, rfl, rfl, rfl, rfl, rfl⟩, ⟨_, Try.underlying127, rfl, flds_of ⟨⟨_, rfl, rfl, by decide⟩, ⟨_, rfl, rfl, by decide⟩, ⟨_, rfl, rfl, by decide⟩, trivial⟩⟩⟩
theorem ok128 : InfoOk Try.prog tget 128 i128 := ⟨⟨Try.t128, _, Try.type128, rfl, rfl, rfl, rfl, rfl⟩, ⟨_, Try.underlying128, rfl, flds_of ⟨⟨_, rfl, rfl, by decide⟩, ⟨_, rfl, rfl, by decide⟩, ⟨_, rfl, rfl, by decide⟩, trivial⟩⟩⟩
theorem ok134 : InfoOk Try.prog tget 134 i134 := ⟨⟨Try.t134, _, Try.type134, rfl, rfl, rfl, rfl, rfl⟩, ⟨Try.underlying134, _, rfl, rfl, by decide⟩⟩
theorem ok141 : InfoOk Try.prog tget 141 i141 := ⟨⟨Try.t141, _, Try.type141, rfl, rfl, rfl, rfl, rfl⟩, ⟨_, Try.underlying141, rfl, flds_of ⟨⟨_, rfl, rfl, by decide⟩, ⟨_, rfl, rfl, by decide⟩, ⟨_, rfl, rfl, by decide⟩, ⟨_, rfl, rfl, by decide⟩, ⟨_, rfl, rfl, by decide⟩, trivial⟩⟩⟩
theorem ok142 : InfoOk Try.prog tget 142 i142 := ⟨⟨Try.t142, _, Try.type142, rfl, rfl, rfl, rfl, rfl⟩, ⟨_, Try.underlying142, rfl, flds_of ⟨⟨_, rfl, rfl, by decide⟩, ⟨_, rfl, rfl, by decide⟩, ⟨_, rfl, rfl, by decide⟩, ⟨_, rfl, rfl, by decide⟩, ⟨_, rfl, rfl, by decide⟩, trivial⟩⟩⟩
theorem ok143 : InfoOk Try.prog tget 143 i143 := ⟨⟨Try.t143, _, Try.type143, rfl, rfl, rfl, rfl, rfl⟩, ⟨_, Try.underlying143, rfl, flds_of ⟨⟨_, rfl, rfl, by decide⟩, ⟨_, rfl, rfl, by decide⟩, trivial⟩⟩⟩
theorem ok144 : InfoOk Try.prog tget 144 i144 := ⟨⟨Try.t144, _, Try.type144, rfl, rfl, rfl, rfl, rfl⟩, ⟨_, Try.underlying144, rfl, flds_of ⟨⟨_, rfl, rfl, by decide⟩, ⟨_, rfl, rfl, by decide⟩, trivial⟩⟩⟩
theorem ok208 : InfoOk Try.prog tget 208 i208 := ⟨⟨Try.t208, _, Try.type208, rfl, rfl, rfl, rfl, rfl⟩, Try.underlying208⟩
theorem ok220 : InfoOk Try.prog tget 220 i220 := ⟨⟨Try.t220, _, Try.type220, rfl, rfl, rfl, rfl, rfl⟩, ⟨_, Try.underlying220, rfl, flds_of ⟨⟨_, rfl, rfl, by decide⟩, ⟨_, rfl, rfl, by decide⟩, trivial⟩⟩⟩
theorem ok221 : InfoOk Try.prog tget 221 i221 := ⟨⟨Try.t221, _, Try.type221, rfl, rfl, rfl, rfl, rfl⟩, ⟨_, Try.underlying221, rfl, flds_of ⟨⟨_, rfl, rfl, by decide⟩, ⟨_, rfl, rfl, by decide⟩, trivial⟩⟩⟩
theorem ok225 : InfoOk Try.prog tget 225 i225 := ⟨⟨Try.t225, _, Try.type225, rfl, rfl, rfl, rfl, rfl⟩, ⟨Try.underlying225, _, rfl, rfl, by decide⟩⟩
theorem ok229 : InfoOk Try.prog tget 229 i229 := ⟨⟨Try.t229, _, Try.type229, rfl, rfl, rfl, rfl, rfl⟩, ⟨Try.underlying229, _, rfl, rfl, by decide⟩⟩
theorem ok234 : InfoOk Try.prog tget 234 i234 := ⟨⟨Try.t234, _, Try.type234, rfl, rfl, rfl, rfl, rfl⟩, ⟨Try.underlying234, _, rfl, rfl, by decide⟩⟩
theorem ok243 : InfoOk Try.prog tget 243 i243 := ⟨⟨Try.t243, _, Try.type243, rfl, rfl, rfl, rfl, rfl⟩, ⟨Try.underlying243, _, rfl, rfl, by decide⟩⟩
theorem ok261 : InfoOk Try.prog tget 261 i261 := ⟨⟨Try.t261, _, Try.type261, rfl, rfl, rfl, rfl, rfl⟩, Try.underlying261⟩
theorem ok262 : InfoOk Try.prog tget 262 i262 := ⟨⟨Try.t262, _, Try.type262, rfl, rfl, rfl, rfl, rfl⟩, Try.underlying262⟩
theorem ok265 : InfoOk Try.prog tget 265 i265 := ⟨⟨Try.t265, _, Try.type265, rfl, rfl, rfl, rfl, rfl⟩, Try.underlying265⟩
theorem ok266 : InfoOk Try.prog tget 266 i266 := ⟨⟨Try.t266, _, Try.type266, rfl, rfl, rfl, rfl, rfl⟩, Try.underlying266⟩
theorem tok : ∀ T i, tget T = some i → InfoOk Try.prog tget T i := by
  intro T i h
  unfold tget at h
  split at h
  · cases h; exact ok2
  · cases h; exact ok3
  · cases h; exact ok4
  · cases h; exact ok5
  · cases h; exact ok6
  · cases h; exact ok7
  · cases h; exact ok8
  · cases h; exact ok9
  · cases h; exact ok10
  · cases h; exact ok11
  · cases h; exact ok12
  · cases h; exact ok13
  · cases h; exact ok14
  · cases h; exact ok21
  · cases h; exact ok22
  · cases h; exact ok24
  · cases h; exact ok25
  · cases h; exact ok26
  · cases h; exact ok27
  · cases h; exact ok28
  · cases h; exact ok29
  · cases h; exact ok30
  · cases h; exact ok31
  · cases h; exact ok32
  · cases h; exact ok33
  · cases h; exact ok34
  · cases h; exact ok38
  · cases h; exact ok41
  · cases h; exact ok46
  · cases h; exact ok47
  · cases h; exact ok49
  · cases h; exact ok50
  · cases h; exact ok51
  · cases h; exact ok52
  · cases h; exact ok53
  · cases h; exact ok56
  · cases h; exact ok61
  · cases h; exact ok62
  · cases h; exact ok63
  · cases h; exact ok66
  · cases h; exact ok67
  · cases h; exact ok69
  · cases h; exact ok80
  · cases h; exact ok81
  · cases h; exact ok82
  · cases h; exact ok83
  · cases h; exact ok84
  · cases h; exact ok85
  · cases h; exact ok107
  · cases h; exact ok108
  · cases h; exact ok109
  · cases h; exact ok111
  · cases h; exact ok112
  · cases h; exact ok113
  · cases h; exact ok120
  · cases h; exact ok121
  · cases h; exact ok127
  · cases h; exact ok128
  · cases h; exact ok134
  · cases h; exact ok141
  · cases h; exact ok142
  · cases h; exact ok143
  · cases h; exact ok144
  · cases h; exact ok208
  · cases h; exact ok220
  · cases h; exact ok221
  · cases h; exact ok225
  · cases h; exact ok229
  · cases h; exact ok234
  · cases h; exact ok243
  · cases h; exact ok261
  · cases h; exact ok262
  · cases h; exact ok265
  · cases h; exact ok266
  · cases h
def X0 : Tbl Try.prog := ⟨tget, tok, fun _ => false, fun _ => false, fun _ _ _ h => by cases h⟩
theorem eq2 (d : Nat) : EqAtT Try.prog (d + 1) 2 i2.t := eqInt Try.underlying2 d
theorem eq3 (d : Nat) : EqAtT Try.prog (d + 1) 3 i3.t := eqInt Try.underlying3 d
theorem eq4 (d : Nat) : EqAtT Try.prog (d + 1) 4 .bool := eqBool Try.underlying4 d
theorem eq6 (d : Nat) : EqAtT Try.prog (d + 1) 6 i6.t := eqInt Try.underlying6 d
theorem eq7 (d : Nat) : EqAtT Try.prog (d + 2) 7 i7.t := eqStruct X0 Try.underlying7 Try.stoodInHeld7 rfl ⟨by decide, rfl, ⟨_, rfl, rfl⟩, eq2 (d + 0), by decide, rfl, ⟨_, rfl, rfl⟩, eq3 (d + 0), by decide, rfl, ⟨_, rfl, rfl⟩, eq4 (d + 0), by decide, rfl, ⟨_, rfl, rfl⟩, eq6 (d + 0), trivial⟩
theorem eq8 (d : Nat) : EqAtT Try.prog (d + 2) 8 i8.t := eqStruct X0 Try.underlying8 Try.stoodInHeld8 rfl ⟨by decide, rfl, ⟨_, rfl, rfl⟩, eq2 (d + 0), by decide, rfl, ⟨_, rfl, rfl⟩, eq3 (d + 0), by decide, rfl, ⟨_, rfl, rfl⟩, eq4 (d + 0), by decide, rfl, ⟨_, rfl, rfl⟩, eq6 (d + 0), trivial⟩
theorem eq29 (d : Nat) : EqAtT Try.prog (d + 1) 29 i29.t := eqInt Try.underlying29 d
theorem eq30 (d : Nat) : EqAtT Try.prog (d + 2) 30 i30.t := eqStruct X0 Try.underlying30 Try.stoodInHeld30 rfl ⟨by decide, rfl, ⟨_, rfl, rfl⟩, eq3 (d + 0), by decide, rfl, ⟨_, rfl, rfl⟩, eq3 (d + 0), by decide, rfl, ⟨_, rfl, rfl⟩, eq3 (d + 0), by decide, rfl, ⟨_, rfl, rfl⟩, eq3 (d + 0), by decide, rfl, ⟨_, rfl, rfl⟩, eq3 (d + 0), by decide, rfl, ⟨_, rfl, rfl⟩, eq3 (d + 0), by decide, rfl, ⟨_, rfl, rfl⟩, eq4 (d + 0), by decide, rfl, ⟨_, rfl, rfl⟩, eq29 (d + 0), by decide, rfl, ⟨_, rfl, rfl⟩, eq29 (d + 0), trivial⟩
theorem eq31 (d : Nat) : EqAtT Try.prog (d + 2) 31 i31.t := eqStruct X0 Try.underlying31 Try.stoodInHeld31 rfl ⟨by decide, rfl, ⟨_, rfl, rfl⟩, eq3 (d + 0), by decide, rfl, ⟨_, rfl, rfl⟩, eq3 (d + 0), by decide, rfl, ⟨_, rfl, rfl⟩, eq3 (d + 0), by decide, rfl, ⟨_, rfl, rfl⟩, eq3 (d + 0), by decide, rfl, ⟨_, rfl, rfl⟩, eq3 (d + 0), by decide, rfl, ⟨_, rfl, rfl⟩, eq3 (d + 0), by decide, rfl, ⟨_, rfl, rfl⟩, eq4 (d + 0), by decide, rfl, ⟨_, rfl, rfl⟩, eq29 (d + 0), by decide, rfl, ⟨_, rfl, rfl⟩, eq29 (d + 0), trivial⟩
theorem eq5 (d : Nat) : EqAtT Try.prog (d + 1) 5 i5.t := eqInt Try.underlying5 d
theorem eq32 (d : Nat) : EqAtT Try.prog (d + 3) 32 i32.t := eqStruct X0 Try.underlying32 Try.stoodInHeld32 rfl ⟨by decide, rfl, ⟨_, rfl, rfl⟩, eq5 (d + 1), by decide, rfl, ⟨_, rfl, rfl⟩, eq31 (d + 0), by decide, rfl, ⟨_, rfl, rfl⟩, eq5 (d + 1), by decide, rfl, ⟨_, rfl, rfl⟩, eq5 (d + 1), trivial⟩
theorem eq33 (d : Nat) : EqAtT Try.prog (d + 3) 33 i33.t := eqStruct X0 Try.underlying33 Try.stoodInHeld33 rfl ⟨by decide, rfl, ⟨_, rfl, rfl⟩, eq5 (d + 1), by decide, rfl, ⟨_, rfl, rfl⟩, eq31 (d + 0), by decide, rfl, ⟨_, rfl, rfl⟩, eq5 (d + 1), by decide, rfl, ⟨_, rfl, rfl⟩, eq5 (d + 1), trivial⟩
theorem eq38 (d : Nat) : EqAtT Try.prog (d + 2) 38 i38.t := eqArr X0 (j := i5) Try.underlying38 rfl (eq5 (d + 0))
theorem eq61 (d : Nat) : EqAtT Try.prog (d + 2) 61 i61.t := eqArr X0 (j := i29) Try.underlying61 rfl (eq29 (d + 0))
theorem eq62 (d : Nat) : EqAtT Try.prog (d + 3) 62 i62.t := eqStruct X0 Try.underlying62 Try.stoodInHeld62 rfl ⟨by decide, rfl, ⟨_, rfl, rfl⟩, eq61 (d + 0), by decide, rfl, ⟨_, rfl, rfl⟩, eq3 (d + 1), by decide, rfl, ⟨_, rfl, rfl⟩, eq4 (d + 1), trivial⟩
theorem eq63 (d : Nat) : EqAtT Try.prog (d + 3) 63 i63.t := eqStruct X0 Try.underlying63 Try.stoodInHeld63 rfl ⟨by decide, rfl, ⟨_, rfl, rfl⟩, eq61 (d + 0), by decide, rfl, ⟨_, rfl, rfl⟩, eq3 (d + 1), by decide, rfl, ⟨_, rfl, rfl⟩, eq4 (d + 1), trivial⟩
theorem eq66 (d : Nat) : EqAtT Try.prog (d + 2) 66 i66.t := eqStruct X0 Try.underlying66 Try.stoodInHeld66 rfl ⟨by decide, rfl, ⟨_, rfl, rfl⟩, eq3 (d + 0), by decide, rfl, ⟨_, rfl, rfl⟩, eq3 (d + 0), by decide, rfl, ⟨_, rfl, rfl⟩, eq29 (d + 0), by decide, rfl, ⟨_, rfl, rfl⟩, eq29 (d + 0), trivial⟩
theorem eq67 (d : Nat) : EqAtT Try.prog (d + 2) 67 i67.t := eqStruct X0 Try.underlying67 Try.stoodInHeld67 rfl ⟨by decide, rfl, ⟨_, rfl, rfl⟩, eq3 (d + 0), by decide, rfl, ⟨_, rfl, rfl⟩, eq3 (d + 0), by decide, rfl, ⟨_, rfl, rfl⟩, eq29 (d + 0), by decide, rfl, ⟨_, rfl, rfl⟩, eq29 (d + 0), trivial⟩
theorem eq108 (d : Nat) : EqAtT Try.prog (d + 2) 108 i108.t := eqStruct X0 Try.underlying108 Try.stoodInHeld108 rfl ⟨by decide, rfl, ⟨_, rfl, rfl⟩, eq5 (d + 0), by decide, rfl, ⟨_, rfl, rfl⟩, eq5 (d + 0), by decide, rfl, ⟨_, rfl, rfl⟩, eq5 (d + 0), by decide, rfl, ⟨_, rfl, rfl⟩, eq29 (d + 0), trivial⟩
theorem eq109 (d : Nat) : EqAtT Try.prog (d + 2) 109 i109.t := eqStruct X0 Try.underlying109 Try.stoodInHeld109 rfl ⟨by decide, rfl, ⟨_, rfl, rfl⟩, eq5 (d + 0), by decide, rfl, ⟨_, rfl, rfl⟩, eq5 (d + 0), by decide, rfl, ⟨_, rfl, rfl⟩, eq5 (d + 0), by decide, rfl, ⟨_, rfl, rfl⟩, eq29 (d + 0), trivial⟩
theorem eq112 (d : Nat) : EqAtT Try.prog (d + 2) 112 i112.t := eqStruct X0 Try.underlying112 Try.stoodInHeld112 rfl ⟨by decide, rfl, ⟨_, rfl, rfl⟩, eq3 (d + 0), by decide, rfl, ⟨_, rfl, rfl⟩, eq3 (d + 0), by decide, rfl, ⟨_, rfl, rfl⟩, eq3 (d + 0), by decide, rfl, ⟨_, rfl, rfl⟩, eq29 (d + 0), by decide, rfl, ⟨_, rfl, rfl⟩, eq29 (d + 0), trivial⟩
theorem eq113 (d : Nat) : EqAtT Try.prog (d + 2) 113 i113.t := eqStruct X0 Try.underlying113 Try.stoodInHeld113 rfl ⟨by decide, rfl, ⟨_, rfl, rfl⟩, eq3 (d + 0), by decide, rfl, ⟨_, rfl, rfl⟩, eq3 (d + 0), by decide, rfl, ⟨_, rfl, rfl⟩, eq3 (d + 0), by decide, rfl, ⟨_, rfl, rfl⟩, eq29 (d + 0), by decide, rfl, ⟨_, rfl, rfl⟩, eq29 (d + 0), trivial⟩
theorem eq127 (d : Nat) : EqAtT Try.prog (d + 2) 127 i127.t := eqStruct X0 Try.underlying127 Try.stoodInHeld127 rfl ⟨by decide, rfl, ⟨_, rfl, rfl⟩, eq3 (d + 0), by decide, rfl, ⟨_, rfl, rfl⟩, eq3 (d + 0), by decide, rfl, ⟨_, rfl, rfl⟩, eq29 (d + 0), trivial⟩
theorem eq128 (d : Nat) : EqAtT Try.prog (d + 2) 128 i128.t := eqStruct X0 Try.underlying128 Try.stoodInHeld128 rfl ⟨by decide, rfl, ⟨_, rfl, rfl⟩, eq3 (d + 0), by decide, rfl, ⟨_, rfl, rfl⟩, eq3 (d + 0), by decide, rfl, ⟨_, rfl, rfl⟩, eq29 (d + 0), trivial⟩
theorem eq134 (d : Nat) : EqAtT Try.prog (d + 2) 134 i134.t := eqArr X0 (j := i3) Try.underlying134 rfl (eq3 (d + 0))
theorem eq141 (d : Nat) : EqAtT Try.prog (d + 2) 141 i141.t := eqStruct X0 Try.underlying141 Try.stoodInHeld141 rfl ⟨by decide, rfl, ⟨_, rfl, rfl⟩, eq3 (d + 0), by decide, rfl, ⟨_, rfl, rfl⟩, eq3 (d + 0), by decide, rfl, ⟨_, rfl, rfl⟩, eq3 (d + 0), by decide, rfl, ⟨_, rfl, rfl⟩, eq3 (d + 0), by decide, rfl, ⟨_, rfl, rfl⟩, eq29 (d + 0), trivial⟩
theorem eq142 (d : Nat) : EqAtT Try.prog (d + 2) 142 i142.t := eqStruct X0 Try.underlying142 Try.stoodInHeld142 rfl ⟨by decide, rfl, ⟨_, rfl, rfl⟩, eq3 (d + 0), by decide, rfl, ⟨_, rfl, rfl⟩, eq3 (d + 0), by decide, rfl, ⟨_, rfl, rfl⟩, eq3 (d + 0), by decide, rfl, ⟨_, rfl, rfl⟩, eq3 (d + 0), by decide, rfl, ⟨_, rfl, rfl⟩, eq29 (d + 0), trivial⟩
theorem eq143 (d : Nat) : EqAtT Try.prog (d + 2) 143 i143.t := eqStruct X0 Try.underlying143 Try.stoodInHeld143 rfl ⟨by decide, rfl, ⟨_, rfl, rfl⟩, eq3 (d + 0), by decide, rfl, ⟨_, rfl, rfl⟩, eq29 (d + 0), trivial⟩
theorem eq144 (d : Nat) : EqAtT Try.prog (d + 2) 144 i144.t := eqStruct X0 Try.underlying144 Try.stoodInHeld144 rfl ⟨by decide, rfl, ⟨_, rfl, rfl⟩, eq3 (d + 0), by decide, rfl, ⟨_, rfl, rfl⟩, eq29 (d + 0), trivial⟩
theorem eq220 (d : Nat) : EqAtT Try.prog (d + 2) 220 i220.t := eqStruct X0 Try.underlying220 Try.stoodInHeld220 rfl ⟨by decide, rfl, ⟨_, rfl, rfl⟩, eq3 (d + 0), by decide, rfl, ⟨_, rfl, rfl⟩, eq3 (d + 0), trivial⟩
theorem eq221 (d : Nat) : EqAtT Try.prog (d + 2) 221 i221.t := eqStruct X0 Try.underlying221 Try.stoodInHeld221 rfl ⟨by decide, rfl, ⟨_, rfl, rfl⟩, eq3 (d + 0), by decide, rfl, ⟨_, rfl, rfl⟩, eq3 (d + 0), trivial⟩
theorem eq229 (d : Nat) : EqAtT Try.prog (d + 2) 229 i229.t := eqArr X0 (j := i3) Try.underlying229 rfl (eq3 (d + 0))
theorem eq234 (d : Nat) : EqAtT Try.prog (d + 2) 234 i234.t := eqArr X0 (j := i5) Try.underlying234 rfl (eq5 (d + 0))
def eqT : TypeId → Bool
  | 7 => true
  | 8 => true
  | 30 => true
  | 31 => true
  | 32 => true
  | 33 => true
  | 38 => true
  | 61 => true
  | 62 => true
  | 63 => true
  | 66 => true
  | 67 => true
  | 108 => true
  | 109 => true
  | 112 => true
  | 113 => true
  | 127 => true
  | 128 => true
  | 134 => true
  | 141 => true
  | 142 => true
  | 143 => true
  | 144 => true
  | 220 => true
  | 221 => true
  | 229 => true
  | 234 => true
  | _ => false
theorem eqTok : ∀ T i, tget T = some i → eqT T = true → Try.prog.eqGuardType Try.prog.depth T = false ∧ ∀ (x y : i.t.D) (w : World) (F : Nat → Prop) (cs ds : List Value), KC w F i.t x cs → KC w F i.t y ds → (Op.equal T (mkv i.t cs) (mkv i.t ds)).run Try.prog w = .ok (i.t.eqb x y) w := by
  intro T i hi h
  unfold eqT at h
  split at h
  · cases hi; exact ⟨Try.eqGuardType7, fun x y w F cs ds h1 h2 => eq7 9998 x y w F cs ds h1 h2⟩
  · cases hi; exact ⟨Try.eqGuardType8, fun x y w F cs ds h1 h2 => eq8 9998 x y w F cs ds h1 h2⟩
  · cases hi; exact ⟨Try.eqGuardType30, fun x y w F cs ds h1 h2 => eq30 9998 x y w F cs ds h1 h2⟩
  · cases hi; exact ⟨Try.eqGuardType31, fun x y w F cs ds h1 h2 => eq31 9998 x y w F cs ds h1 h2⟩
  · cases hi; exact ⟨Try.eqGuardType32, fun x y w F cs ds h1 h2 => eq32 9997 x y w F cs ds h1 h2⟩
  · cases hi; exact ⟨Try.eqGuardType33, fun x y w F cs ds h1 h2 => eq33 9997 x y w F cs ds h1 h2⟩
  · cases hi; exact ⟨Try.eqGuardType38, fun x y w F cs ds h1 h2 => eq38 9998 x y w F cs ds h1 h2⟩
  · cases hi; exact ⟨Try.eqGuardType61, fun x y w F cs ds h1 h2 => eq61 9998 x y w F cs ds h1 h2⟩
  · cases hi; exact ⟨Try.eqGuardType62, fun x y w F cs ds h1 h2 => eq62 9997 x y w F cs ds h1 h2⟩
  · cases hi; exact ⟨Try.eqGuardType63, fun x y w F cs ds h1 h2 => eq63 9997 x y w F cs ds h1 h2⟩
  · cases hi; exact ⟨Try.eqGuardType66, fun x y w F cs ds h1 h2 => eq66 9998 x y w F cs ds h1 h2⟩
  · cases hi; exact ⟨Try.eqGuardType67, fun x y w F cs ds h1 h2 => eq67 9998 x y w F cs ds h1 h2⟩
  · cases hi; exact ⟨Try.eqGuardType108, fun x y w F cs ds h1 h2 => eq108 9998 x y w F cs ds h1 h2⟩
  · cases hi; exact ⟨Try.eqGuardType109, fun x y w F cs ds h1 h2 => eq109 9998 x y w F cs ds h1 h2⟩
  · cases hi; exact ⟨Try.eqGuardType112, fun x y w F cs ds h1 h2 => eq112 9998 x y w F cs ds h1 h2⟩
  · cases hi; exact ⟨Try.eqGuardType113, fun x y w F cs ds h1 h2 => eq113 9998 x y w F cs ds h1 h2⟩
  · cases hi; exact ⟨Try.eqGuardType127, fun x y w F cs ds h1 h2 => eq127 9998 x y w F cs ds h1 h2⟩
  · cases hi; exact ⟨Try.eqGuardType128, fun x y w F cs ds h1 h2 => eq128 9998 x y w F cs ds h1 h2⟩
  · cases hi; exact ⟨Try.eqGuardType134, fun x y w F cs ds h1 h2 => eq134 9998 x y w F cs ds h1 h2⟩
  · cases hi; exact ⟨Try.eqGuardType141, fun x y w F cs ds h1 h2 => eq141 9998 x y w F cs ds h1 h2⟩
  · cases hi; exact ⟨Try.eqGuardType142, fun x y w F cs ds h1 h2 => eq142 9998 x y w F cs ds h1 h2⟩
  · cases hi; exact ⟨Try.eqGuardType143, fun x y w F cs ds h1 h2 => eq143 9998 x y w F cs ds h1 h2⟩
  · cases hi; exact ⟨Try.eqGuardType144, fun x y w F cs ds h1 h2 => eq144 9998 x y w F cs ds h1 h2⟩
  · cases hi; exact ⟨Try.eqGuardType220, fun x y w F cs ds h1 h2 => eq220 9998 x y w F cs ds h1 h2⟩
  · cases hi; exact ⟨Try.eqGuardType221, fun x y w F cs ds h1 h2 => eq221 9998 x y w F cs ds h1 h2⟩
  · cases hi; exact ⟨Try.eqGuardType229, fun x y w F cs ds h1 h2 => eq229 9998 x y w F cs ds h1 h2⟩
  · cases hi; exact ⟨Try.eqGuardType234, fun x y w F cs ds h1 h2 => eq234 9998 x y w F cs ds h1 h2⟩
  · cases h
def frzL : List Nat := [12, 14, 15, 16, 17, 22, 26, 28, 29, 32, 35, 38, 39, 41, 42, 43, 44, 45, 46, 51, 52, 53, 54, 55, 56, 57, 60, 63, 64, 65, 66, 67, 68, 70, 71, 72, 75, 88, 94, 99, 100, 101, 105, 106, 108, 109, 111, 119, 120, 122, 124, 125, 126, 131, 136, 137, 152, 154, 155, 156, 163, 164, 165, 166, 168, 172, 173, 184, 186]
def X : Tbl Try.prog := ⟨tget, tok, eqT, fun k => frzL.contains k, eqTok⟩
theorem xfrz (k : Nat) : X.frz k = frzL.contains k := rfl
theorem xg2 : X.get 2 = some i2 := rfl
theorem xg3 : X.get 3 = some i3 := rfl
theorem xg4 : X.get 4 = some i4 := rfl
theorem xg5 : X.get 5 = some i5 := rfl
theorem xg6 : X.get 6 = some i6 := rfl
theorem xg7 : X.get 7 = some i7 := rfl
theorem xg8 : X.get 8 = some i8 := rfl
theorem xg9 : X.get 9 = some i9 := rfl
theorem xg10 : X.get 10 = some i10 := rfl
theorem xg11 : X.get 11 = some i11 := rfl
theorem xg12 : X.get 12 = some i12 := rfl
theorem xg13 : X.get 13 = some i13 := rfl
theorem xg14 : X.get 14 = some i14 := rfl
theorem xg21 : X.get 21 = some i21 := rfl
theorem xg22 : X.get 22 = some i22 := rfl
theorem xg24 : X.get 24 = some i24 := rfl
theorem xg25 : X.get 25 = some i25 := rfl
theorem xg26 : X.get 26 = some i26 := rfl
theorem xg27 : X.get 27 = some i27 := rfl
theorem xg28 : X.get 28 = some i28 := rfl
theorem xg29 : X.get 29 = some i29 := rfl
theorem xg30 : X.get 30 = some i30 := rfl
theorem xg31 : X.get 31 = some i31 := rfl
theorem xg32 : X.get 32 = some i32 := rfl
theorem xg33 : X.get 33 = some i33 := rfl
theorem xg34 : X.get 34 = some i34 := rfl
theorem xg38 : X.get 38 = some i38 := rfl
theorem xg41 : X.get 41 = some i41 := rfl
theorem xg46 : X.get 46 = some i46 := rfl
theorem xg47 : X.get 47 = some i47 := rfl
theorem xg49 : X.get 49 = some i49 := rfl
theorem xg50 : X.get 50 = some i50 := rfl
theorem xg51 : X.get 51 = some i51 := rfl
theorem xg52 : X.get 52 = some i52 := rfl
theorem xg53 : X.get 53 = some i53 := rfl
theorem xg56 : X.get 56 = some i56 := rfl
theorem xg61 : X.get 61 = some i61 := rfl
theorem xg62 : X.get 62 = some i62 := rfl
theorem xg63 : X.get 63 = some i63 := rfl
theorem xg66 : X.get 66 = some i66 := rfl
theorem xg67 : X.get 67 = some i67 := rfl
theorem xg69 : X.get 69 = some i69 := rfl
theorem xg80 : X.get 80 = some i80 := rfl
theorem xg81 : X.get 81 = some i81 := rfl
theorem xg82 : X.get 82 = some i82 := rfl
theorem xg83 : X.get 83 = some i83 := rfl
theorem xg84 : X.get 84 = some i84 := rfl
theorem xg85 : X.get 85 = some i85 := rfl
theorem xg107 : X.get 107 = some i107 := rfl
theorem xg108 : X.get 108 = some i108 := rfl
theorem xg109 : X.get 109 = some i109 := rfl
theorem xg111 : X.get 111 = some i111 := rfl
theorem xg112 : X.get 112 = some i112 := rfl
theorem xg113 : X.get 113 = some i113 := rfl
theorem xg120 : X.get 120 = some i120 := rfl
theorem xg121 : X.get 121 = some i121 := rfl
theorem xg127 : X.get 127 = some i127 := rfl
theorem xg128 : X.get 128 = some i128 := rfl
theorem xg134 : X.get 134 = some i134 := rfl
theorem xg141 : X.get 141 = some i141 := rfl
theorem xg142 : X.get 142 = some i142 := rfl
theorem xg143 : X.get 143 = some i143 := rfl
theorem xg144 : X.get 144 = some i144 := rfl
theorem xg208 : X.get 208 = some i208 := rfl
theorem xg220 : X.get 220 = some i220 := rfl
theorem xg221 : X.get 221 = some i221 := rfl
theorem xg225 : X.get 225 = some i225 := rfl
theorem xg229 : X.get 229 = some i229 := rfl
theorem xg234 : X.get 234 = some i234 := rfl
theorem xg243 : X.get 243 = some i243 := rfl
theorem xg261 : X.get 261 = some i261 := rfl
theorem xg262 : X.get 262 = some i262 := rfl
theorem xg265 : X.get 265 = some i265 := rfl
theorem xg266 : X.get 266 = some i266 := rfl
theorem xe7 : X.eq 7 = true := rfl
theorem xe8 : X.eq 8 = true := rfl
theorem xe30 : X.eq 30 = true := rfl
theorem xe31 : X.eq 31 = true := rfl
theorem xe32 : X.eq 32 = true := rfl
theorem xe33 : X.eq 33 = true := rfl
theorem xe38 : X.eq 38 = true := rfl
theorem xe61 : X.eq 61 = true := rfl
theorem xe62 : X.eq 62 = true := rfl
theorem xe63 : X.eq 63 = true := rfl
theorem xe66 : X.eq 66 = true := rfl
theorem xe67 : X.eq 67 = true := rfl
theorem xe108 : X.eq 108 = true := rfl
theorem xe109 : X.eq 109 = true := rfl
theorem xe112 : X.eq 112 = true := rfl
theorem xe113 : X.eq 113 = true := rfl
theorem xe127 : X.eq 127 = true := rfl
theorem xe128 : X.eq 128 = true := rfl
theorem xe134 : X.eq 134 = true := rfl
theorem xe141 : X.eq 141 = true := rfl
theorem xe142 : X.eq 142 = true := rfl
theorem xe143 : X.eq 143 = true := rfl
theorem xe144 : X.eq 144 = true := rfl
theorem xe220 : X.eq 220 = true := rfl
theorem xe221 : X.eq 221 = true := rfl
theorem xe229 : X.eq 229 = true := rfl
theorem xe234 : X.eq 234 = true := rfl
end Go.Proofs.Ytgkjgpiggjjmpaa.Ev

import Derived.Test.YtiiaingepbkikaaGreatDoorWoAR
import Derived.Test.YtiiaingepbkikaaGreatDoorWoAD
import Derived.Test.YtiiaingepbkikaaGreatDoorWoAB
import Derived.Shelf.Strings.Builder1
import Derived.Shelf.Strings.BuilderK
import Derived.Lib.FrozenHead2
import Derived.Lib.OthersKept
namespace Go.Proofs.YtiiaingepbkikaaGreatDoor
open Go.RowKit
set_option linter.unusedVariables false
set_option linter.unusedSimpArgs false
def doP (n a0 a1 a2 : Int) (ths : List Th) : List Th := if n < 0 ∨ 19 ≤ n ∨ 16 ≤ a0 then ths else ths.set a0.toNat (thP n.toNat a1 a2 (ths.getD a0.toNat th0))
theorem do_0 (ths : List Th) (g k : Nat) (a1 a2 a3 : Int) (x : Th) (w : World) (hx : OwIn w g ths) (hok : x.Ok 100) (ha1 : U64' a1) (ha2 : U64' a2) (hk : k < 16) (hxk : ths[k]? = some x) :
 Calls Tryz.prog 6 #[.pointer (some ⟨g, 0, none⟩), .int .i64 ((0 : Nat) : Int), .agg #[.int .u64 (k : Int), .int .u64 a1, .int .u64 a2, .int .u64 a3]] w (DoPost w g (ths.set k (thP 0 a1 a2 x))) :=
 do_core ths g 0 k a1 a2 a3 [113, 117, 101, 117, 101, 46, 110, 101, 119] ⟨#[113, 117, 101, 117, 101]⟩ ⟨#[110, 101, 119]⟩ x (thP 0 a1 a2 x) w hx (by decide) hk hxk rfl (fun W => scut_0 W) (fun p0 p1 p2 W h => does_q x ⟨#[110, 101, 119]⟩ 0 a1 a2 p0 p1 p2 W h hok (fun o p W hq ho => qdoes_new o p a1 W hq ho ha1))
theorem do_1 (ths : List Th) (g k : Nat) (a1 a2 a3 : Int) (x : Th) (w : World) (hx : OwIn w g ths) (hok : x.Ok 100) (ha1 : U64' a1) (ha2 : U64' a2) (hk : k < 16) (hxk : ths[k]? = some x) :
 Calls Tryz.prog 6 #[.pointer (some ⟨g, 0, none⟩), .int .i64 ((1 : Nat) : Int), .agg #[.int .u64 (k : Int), .int .u64 a1, .int .u64 a2, .int .u64 a3]] w (DoPost w g (ths.set k (thP 1 a1 a2 x))) :=
 do_core ths g 1 k a1 a2 a3 [113, 117, 101, 117, 101, 46, 112, 117, 116] ⟨#[113, 117, 101, 117, 101]⟩ ⟨#[112, 117, 116]⟩ x (thP 1 a1 a2 x) w hx (by decide) hk hxk rfl (fun W => scut_1 W) (fun p0 p1 p2 W h => does_q x ⟨#[112, 117, 116]⟩ 1 a1 a2 p0 p1 p2 W h hok (fun o p W hq ho => qdoes_put o p a1 W hq ho ha1))
theorem do_2 (ths : List Th) (g k : Nat) (a1 a2 a3 : Int) (x : Th) (w : World) (hx : OwIn w g ths) (hok : x.Ok 100) (ha1 : U64' a1) (ha2 : U64' a2) (hk : k < 16) (hxk : ths[k]? = some x) :
 Calls Tryz.prog 6 #[.pointer (some ⟨g, 0, none⟩), .int .i64 ((2 : Nat) : Int), .agg #[.int .u64 (k : Int), .int .u64 a1, .int .u64 a2, .int .u64 a3]] w (DoPost w g (ths.set k (thP 2 a1 a2 x))) :=
 do_core ths g 2 k a1 a2 a3 [113, 117, 101, 117, 101, 46, 116, 97, 107, 101] ⟨#[113, 117, 101, 117, 101]⟩ ⟨#[116, 97, 107, 101]⟩ x (thP 2 a1 a2 x) w hx (by decide) hk hxk rfl (fun W => scut_2 W) (fun p0 p1 p2 W h => does_q x ⟨#[116, 97, 107, 101]⟩ 2 a1 a2 p0 p1 p2 W h hok (fun o p W hq ho => qdoes_take o p a1 W hq ho ha1))
theorem do_3 (ths : List Th) (g k : Nat) (a1 a2 a3 : Int) (x : Th) (w : World) (hx : OwIn w g ths) (hok : x.Ok 100) (ha1 : U64' a1) (ha2 : U64' a2) (hk : k < 16) (hxk : ths[k]? = some x) :
 Calls Tryz.prog 6 #[.pointer (some ⟨g, 0, none⟩), .int .i64 ((3 : Nat) : Int), .agg #[.int .u64 (k : Int), .int .u64 a1, .int .u64 a2, .int .u64 a3]] w (DoPost w g (ths.set k (thP 3 a1 a2 x))) :=
 do_core ths g 3 k a1 a2 a3 [113, 117, 101, 117, 101, 46, 112, 101, 101, 107] ⟨#[113, 117, 101, 117, 101]⟩ ⟨#[112, 101, 101, 107]⟩ x (thP 3 a1 a2 x) w hx (by decide) hk hxk rfl (fun W => scut_3 W) (fun p0 p1 p2 W h => does_q x ⟨#[112, 101, 101, 107]⟩ 3 a1 a2 p0 p1 p2 W h hok (fun o p W hq ho => qdoes_peek o p a1 W hq ho ha1))
theorem do_4 (ths : List Th) (g k : Nat) (a1 a2 a3 : Int) (x : Th) (w : World) (hx : OwIn w g ths) (hok : x.Ok 100) (ha1 : U64' a1) (ha2 : U64' a2) (hk : k < 16) (hxk : ths[k]? = some x) :
 Calls Tryz.prog 6 #[.pointer (some ⟨g, 0, none⟩), .int .i64 ((4 : Nat) : Int), .agg #[.int .u64 (k : Int), .int .u64 a1, .int .u64 a2, .int .u64 a3]] w (DoPost w g (ths.set k (thP 4 a1 a2 x))) :=
 do_core ths g 4 k a1 a2 a3 [113, 117, 101, 117, 101, 46, 115, 105, 122, 101] ⟨#[113, 117, 101, 117, 101]⟩ ⟨#[115, 105, 122, 101]⟩ x (thP 4 a1 a2 x) w hx (by decide) hk hxk rfl (fun W => scut_4 W) (fun p0 p1 p2 W h => does_q x ⟨#[115, 105, 122, 101]⟩ 4 a1 a2 p0 p1 p2 W h hok (fun o p W hq ho => qdoes_size o p a1 W hq ho ha1))
theorem do_5 (ths : List Th) (g k : Nat) (a1 a2 a3 : Int) (x : Th) (w : World) (hx : OwIn w g ths) (hok : x.Ok 100) (ha1 : U64' a1) (ha2 : U64' a2) (hk : k < 16) (hxk : ths[k]? = some x) :
 Calls Tryz.prog 6 #[.pointer (some ⟨g, 0, none⟩), .int .i64 ((5 : Nat) : Int), .agg #[.int .u64 (k : Int), .int .u64 a1, .int .u64 a2, .int .u64 a3]] w (DoPost w g (ths.set k (thP 5 a1 a2 x))) :=
 do_core ths g 5 k a1 a2 a3 [113, 117, 101, 117, 101, 46, 100, 114, 111, 112] ⟨#[113, 117, 101, 117, 101]⟩ ⟨#[100, 114, 111, 112]⟩ x (thP 5 a1 a2 x) w hx (by decide) hk hxk rfl (fun W => scut_5 W) (fun p0 p1 p2 W h => does_q x ⟨#[100, 114, 111, 112]⟩ 5 a1 a2 p0 p1 p2 W h hok (fun o p W hq ho => qdoes_drop o p a1 W hq ho ha1))
theorem do_6 (ths : List Th) (g k : Nat) (a1 a2 a3 : Int) (x : Th) (w : World) (hx : OwIn w g ths) (hok : x.Ok 100) (ha1 : U64' a1) (ha2 : U64' a2) (hk : k < 16) (hxk : ths[k]? = some x) :
 Calls Tryz.prog 6 #[.pointer (some ⟨g, 0, none⟩), .int .i64 ((6 : Nat) : Int), .agg #[.int .u64 (k : Int), .int .u64 a1, .int .u64 a2, .int .u64 a3]] w (DoPost w g (ths.set k (thP 6 a1 a2 x))) :=
 do_core ths g 6 k a1 a2 a3 [99, 104, 97, 105, 110, 46, 110, 101, 119] ⟨#[99, 104, 97, 105, 110]⟩ ⟨#[110, 101, 119]⟩ x (thP 6 a1 a2 x) w hx (by decide) hk hxk rfl (fun W => scut_6 W) (fun p0 p1 p2 W h => does_c x ⟨#[110, 101, 119]⟩ 0 a1 a2 p0 p1 p2 W h hok (fun o p W hq ho => cdoes_new o p a1 W hq ho ha1))
theorem do_7 (ths : List Th) (g k : Nat) (a1 a2 a3 : Int) (x : Th) (w : World) (hx : OwIn w g ths) (hok : x.Ok 100) (ha1 : U64' a1) (ha2 : U64' a2) (hk : k < 16) (hxk : ths[k]? = some x) :
 Calls Tryz.prog 6 #[.pointer (some ⟨g, 0, none⟩), .int .i64 ((7 : Nat) : Int), .agg #[.int .u64 (k : Int), .int .u64 a1, .int .u64 a2, .int .u64 a3]] w (DoPost w g (ths.set k (thP 7 a1 a2 x))) :=
 do_core ths g 7 k a1 a2 a3 [99, 104, 97, 105, 110, 46, 97, 100, 100] ⟨#[99, 104, 97, 105, 110]⟩ ⟨#[97, 100, 100]⟩ x (thP 7 a1 a2 x) w hx (by decide) hk hxk rfl (fun W => scut_7 W) (fun p0 p1 p2 W h => does_c x ⟨#[97, 100, 100]⟩ 1 a1 a2 p0 p1 p2 W h hok (fun o p W hq ho => cdoes_add o p a1 W hq ho ha1))
theorem do_8 (ths : List Th) (g k : Nat) (a1 a2 a3 : Int) (x : Th) (w : World) (hx : OwIn w g ths) (hok : x.Ok 100) (ha1 : U64' a1) (ha2 : U64' a2) (hk : k < 16) (hxk : ths[k]? = some x) :
 Calls Tryz.prog 6 #[.pointer (some ⟨g, 0, none⟩), .int .i64 ((8 : Nat) : Int), .agg #[.int .u64 (k : Int), .int .u64 a1, .int .u64 a2, .int .u64 a3]] w (DoPost w g (ths.set k (thP 8 a1 a2 x))) :=
 do_core ths g 8 k a1 a2 a3 [99, 104, 97, 105, 110, 46, 100, 101, 108] ⟨#[99, 104, 97, 105, 110]⟩ ⟨#[100, 101, 108]⟩ x (thP 8 a1 a2 x) w hx (by decide) hk hxk rfl (fun W => scut_8 W) (fun p0 p1 p2 W h => does_c x ⟨#[100, 101, 108]⟩ 2 a1 a2 p0 p1 p2 W h hok (fun o p W hq ho => cdoes_del o p a1 W hq ho ha1))
theorem do_9 (ths : List Th) (g k : Nat) (a1 a2 a3 : Int) (x : Th) (w : World) (hx : OwIn w g ths) (hok : x.Ok 100) (ha1 : U64' a1) (ha2 : U64' a2) (hk : k < 16) (hxk : ths[k]? = some x) :
 Calls Tryz.prog 6 #[.pointer (some ⟨g, 0, none⟩), .int .i64 ((9 : Nat) : Int), .agg #[.int .u64 (k : Int), .int .u64 a1, .int .u64 a2, .int .u64 a3]] w (DoPost w g (ths.set k (thP 9 a1 a2 x))) :=
 do_core ths g 9 k a1 a2 a3 [99, 104, 97, 105, 110, 46, 104, 97, 115] ⟨#[99, 104, 97, 105, 110]⟩ ⟨#[104, 97, 115]⟩ x (thP 9 a1 a2 x) w hx (by decide) hk hxk rfl (fun W => scut_9 W) (fun p0 p1 p2 W h => does_c x ⟨#[104, 97, 115]⟩ 3 a1 a2 p0 p1 p2 W h hok (fun o p W hq ho => cdoes_has o p a1 W hq ho ha1))
theorem do_10 (ths : List Th) (g k : Nat) (a1 a2 a3 : Int) (x : Th) (w : World) (hx : OwIn w g ths) (hok : x.Ok 100) (ha1 : U64' a1) (ha2 : U64' a2) (hk : k < 16) (hxk : ths[k]? = some x) :
 Calls Tryz.prog 6 #[.pointer (some ⟨g, 0, none⟩), .int .i64 ((10 : Nat) : Int), .agg #[.int .u64 (k : Int), .int .u64 a1, .int .u64 a2, .int .u64 a3]] w (DoPost w g (ths.set k (thP 10 a1 a2 x))) :=
 do_core ths g 10 k a1 a2 a3 [99, 104, 97, 105, 110, 46, 108, 101, 97, 115, 116] ⟨#[99, 104, 97, 105, 110]⟩ ⟨#[108, 101, 97, 115, 116]⟩ x (thP 10 a1 a2 x) w hx (by decide) hk hxk rfl (fun W => scut_10 W) (fun p0 p1 p2 W h => does_c x ⟨#[108, 101, 97, 115, 116]⟩ 4 a1 a2 p0 p1 p2 W h hok (fun o p W hq ho => cdoes_least o p a1 W hq ho ha1))
theorem do_11 (ths : List Th) (g k : Nat) (a1 a2 a3 : Int) (x : Th) (w : World) (hx : OwIn w g ths) (hok : x.Ok 100) (ha1 : U64' a1) (ha2 : U64' a2) (hk : k < 16) (hxk : ths[k]? = some x) :
 Calls Tryz.prog 6 #[.pointer (some ⟨g, 0, none⟩), .int .i64 ((11 : Nat) : Int), .agg #[.int .u64 (k : Int), .int .u64 a1, .int .u64 a2, .int .u64 a3]] w (DoPost w g (ths.set k (thP 11 a1 a2 x))) :=
 do_core ths g 11 k a1 a2 a3 [99, 104, 97, 105, 110, 46, 115, 105, 122, 101] ⟨#[99, 104, 97, 105, 110]⟩ ⟨#[115, 105, 122, 101]⟩ x (thP 11 a1 a2 x) w hx (by decide) hk hxk rfl (fun W => scut_11 W) (fun p0 p1 p2 W h => does_c x ⟨#[115, 105, 122, 101]⟩ 5 a1 a2 p0 p1 p2 W h hok (fun o p W hq ho => cdoes_size o p a1 W hq ho ha1))
theorem do_12 (ths : List Th) (g k : Nat) (a1 a2 a3 : Int) (x : Th) (w : World) (hx : OwIn w g ths) (hok : x.Ok 100) (ha1 : U64' a1) (ha2 : U64' a2) (hk : k < 16) (hxk : ths[k]? = some x) :
 Calls Tryz.prog 6 #[.pointer (some ⟨g, 0, none⟩), .int .i64 ((12 : Nat) : Int), .agg #[.int .u64 (k : Int), .int .u64 a1, .int .u64 a2, .int .u64 a3]] w (DoPost w g (ths.set k (thP 12 a1 a2 x))) :=
 do_core ths g 12 k a1 a2 a3 [99, 104, 97, 105, 110, 46, 100, 114, 111, 112] ⟨#[99, 104, 97, 105, 110]⟩ ⟨#[100, 114, 111, 112]⟩ x (thP 12 a1 a2 x) w hx (by decide) hk hxk rfl (fun W => scut_12 W) (fun p0 p1 p2 W h => does_c x ⟨#[100, 114, 111, 112]⟩ 6 a1 a2 p0 p1 p2 W h hok (fun o p W hq ho => cdoes_drop o p a1 W hq ho ha1))
theorem do_13 (ths : List Th) (g k : Nat) (a1 a2 a3 : Int) (x : Th) (w : World) (hx : OwIn w g ths) (hok : x.Ok 100) (ha1 : U64' a1) (ha2 : U64' a2) (hk : k < 16) (hxk : ths[k]? = some x) :
 Calls Tryz.prog 6 #[.pointer (some ⟨g, 0, none⟩), .int .i64 ((13 : Nat) : Int), .agg #[.int .u64 (k : Int), .int .u64 a1, .int .u64 a2, .int .u64 a3]] w (DoPost w g (ths.set k (thP 13 a1 a2 x))) :=
 do_core ths g 13 k a1 a2 a3 [116, 97, 98, 108, 101, 46, 110, 101, 119] ⟨#[116, 97, 98, 108, 101]⟩ ⟨#[110, 101, 119]⟩ x (thP 13 a1 a2 x) w hx (by decide) hk hxk rfl (fun W => scut_13 W) (fun p0 p1 p2 W h => does_t x ⟨#[110, 101, 119]⟩ 0 a1 a2 p0 p1 p2 W h hok (fun o p W hq ho => tdoes_new o p a1 a2 W hq ho ha1 ha2))
theorem do_14 (ths : List Th) (g k : Nat) (a1 a2 a3 : Int) (x : Th) (w : World) (hx : OwIn w g ths) (hok : x.Ok 100) (ha1 : U64' a1) (ha2 : U64' a2) (hk : k < 16) (hxk : ths[k]? = some x) :
 Calls Tryz.prog 6 #[.pointer (some ⟨g, 0, none⟩), .int .i64 ((14 : Nat) : Int), .agg #[.int .u64 (k : Int), .int .u64 a1, .int .u64 a2, .int .u64 a3]] w (DoPost w g (ths.set k (thP 14 a1 a2 x))) :=
 do_core ths g 14 k a1 a2 a3 [116, 97, 98, 108, 101, 46, 112, 117, 116] ⟨#[116, 97, 98, 108, 101]⟩ ⟨#[112, 117, 116]⟩ x (thP 14 a1 a2 x) w hx (by decide) hk hxk rfl (fun W => scut_14 W) (fun p0 p1 p2 W h => does_t x ⟨#[112, 117, 116]⟩ 1 a1 a2 p0 p1 p2 W h hok (fun o p W hq ho => tdoes_put o p a1 a2 W hq ho ha1 ha2))
theorem do_15 (ths : List Th) (g k : Nat) (a1 a2 a3 : Int) (x : Th) (w : World) (hx : OwIn w g ths) (hok : x.Ok 100) (ha1 : U64' a1) (ha2 : U64' a2) (hk : k < 16) (hxk : ths[k]? = some x) :
 Calls Tryz.prog 6 #[.pointer (some ⟨g, 0, none⟩), .int .i64 ((15 : Nat) : Int), .agg #[.int .u64 (k : Int), .int .u64 a1, .int .u64 a2, .int .u64 a3]] w (DoPost w g (ths.set k (thP 15 a1 a2 x))) :=
 do_core ths g 15 k a1 a2 a3 [116, 97, 98, 108, 101, 46, 103, 101, 116] ⟨#[116, 97, 98, 108, 101]⟩ ⟨#[103, 101, 116]⟩ x (thP 15 a1 a2 x) w hx (by decide) hk hxk rfl (fun W => scut_15 W) (fun p0 p1 p2 W h => does_t x ⟨#[103, 101, 116]⟩ 2 a1 a2 p0 p1 p2 W h hok (fun o p W hq ho => tdoes_get o p a1 a2 W hq ho ha1 ha2))
theorem do_16 (ths : List Th) (g k : Nat) (a1 a2 a3 : Int) (x : Th) (w : World) (hx : OwIn w g ths) (hok : x.Ok 100) (ha1 : U64' a1) (ha2 : U64' a2) (hk : k < 16) (hxk : ths[k]? = some x) :
 Calls Tryz.prog 6 #[.pointer (some ⟨g, 0, none⟩), .int .i64 ((16 : Nat) : Int), .agg #[.int .u64 (k : Int), .int .u64 a1, .int .u64 a2, .int .u64 a3]] w (DoPost w g (ths.set k (thP 16 a1 a2 x))) :=
 do_core ths g 16 k a1 a2 a3 [116, 97, 98, 108, 101, 46, 100, 101, 108] ⟨#[116, 97, 98, 108, 101]⟩ ⟨#[100, 101, 108]⟩ x (thP 16 a1 a2 x) w hx (by decide) hk hxk rfl (fun W => scut_16 W) (fun p0 p1 p2 W h => does_t x ⟨#[100, 101, 108]⟩ 3 a1 a2 p0 p1 p2 W h hok (fun o p W hq ho => tdoes_del o p a1 a2 W hq ho ha1 ha2))
theorem do_17 (ths : List Th) (g k : Nat) (a1 a2 a3 : Int) (x : Th) (w : World) (hx : OwIn w g ths) (hok : x.Ok 100) (ha1 : U64' a1) (ha2 : U64' a2) (hk : k < 16) (hxk : ths[k]? = some x) :
 Calls Tryz.prog 6 #[.pointer (some ⟨g, 0, none⟩), .int .i64 ((17 : Nat) : Int), .agg #[.int .u64 (k : Int), .int .u64 a1, .int .u64 a2, .int .u64 a3]] w (DoPost w g (ths.set k (thP 17 a1 a2 x))) :=
 do_core ths g 17 k a1 a2 a3 [116, 97, 98, 108, 101, 46, 115, 105, 122, 101] ⟨#[116, 97, 98, 108, 101]⟩ ⟨#[115, 105, 122, 101]⟩ x (thP 17 a1 a2 x) w hx (by decide) hk hxk rfl (fun W => scut_17 W) (fun p0 p1 p2 W h => does_t x ⟨#[115, 105, 122, 101]⟩ 4 a1 a2 p0 p1 p2 W h hok (fun o p W hq ho => tdoes_size o p a1 a2 W hq ho ha1 ha2))
theorem do_18 (ths : List Th) (g k : Nat) (a1 a2 a3 : Int) (x : Th) (w : World) (hx : OwIn w g ths) (hok : x.Ok 100) (ha1 : U64' a1) (ha2 : U64' a2) (hk : k < 16) (hxk : ths[k]? = some x) :
 Calls Tryz.prog 6 #[.pointer (some ⟨g, 0, none⟩), .int .i64 ((18 : Nat) : Int), .agg #[.int .u64 (k : Int), .int .u64 a1, .int .u64 a2, .int .u64 a3]] w (DoPost w g (ths.set k (thP 18 a1 a2 x))) :=
 do_core ths g 18 k a1 a2 a3 [116, 97, 98, 108, 101, 46, 100, 114, 111, 112] ⟨#[116, 97, 98, 108, 101]⟩ ⟨#[100, 114, 111, 112]⟩ x (thP 18 a1 a2 x) w hx (by decide) hk hxk rfl (fun W => scut_18 W) (fun p0 p1 p2 W h => does_t x ⟨#[100, 114, 111, 112]⟩ 5 a1 a2 p0 p1 p2 W h hok (fun o p W hq ho => tdoes_drop o p a1 a2 W hq ho ha1 ha2))
theorem do_any (ths : List Th) (g : Nat) (n a0 a1 a2 a3 : Int) (w : World) (hx : OwIn w g ths) (hok : ∀ x ∈ ths, x.Ok 100) (ha0 : U64' a0) (ha1 : U64' a1) (ha2 : U64' a2) :
 Calls Tryz.prog 6 #[.pointer (some ⟨g, 0, none⟩), .int .i64 n, .agg #[.int .u64 a0, .int .u64 a1, .int .u64 a2, .int .u64 a3]] w (DoPost w g (doP n a0 a1 a2 ths)) := by
 unfold doP
 by_cases h1 : n < 0 ∨ 19 ≤ n
 ·rw [if_pos (by omega)]
  exact do_out ths g n a0 a1 a2 a3 w hx (by omega)
 by_cases h2 : 16 ≤ a0
 ·rw [if_pos (by omega)]
  exact do_far ths g n a0 a1 a2 a3 w hx (by omega) (by omega) h2
 rw [if_neg (by omega)]
 obtain ⟨m, rfl⟩ : ∃ m : Nat, n = (m : Int) := ⟨n.toNat, by omega⟩
 obtain ⟨k, rfl⟩ : ∃ k : Nat, a0 = (k : Int) := ⟨a0.toNat, by have := ha0.1; omega⟩
 rw [Int.toNat_natCast, Int.toNat_natCast]
 have hk : k < 16 := by omega
 have hl : k < ths.length := by rw [hx.len]; exact hk
 have hxk : ths[k]? = some ths[k] := List.getElem?_eq_getElem hl
 have hg : ths.getD k th0 = ths[k] := by rw [List.getD_eq_getElem?_getD, hxk]; rfl
 rw [hg]
 have hox := hok _ (List.getElem_mem hl)
 generalize ths[k] = x at hxk hox
 have hm : m = 0 ∨ m = 1 ∨ m = 2 ∨ m = 3 ∨ m = 4 ∨ m = 5 ∨ m = 6 ∨ m = 7 ∨ m = 8 ∨ m = 9 ∨ m = 10 ∨ m = 11 ∨ m = 12 ∨ m = 13 ∨ m = 14 ∨ m = 15 ∨ m = 16 ∨ m = 17 ∨ m = 18 := by omega
 rcases hm with rfl | rfl | rfl | rfl | rfl | rfl | rfl | rfl | rfl | rfl | rfl | rfl | rfl | rfl | rfl | rfl | rfl | rfl | rfl
 ·exact do_0 ths g k a1 a2 a3 x w hx hox ha1 ha2 hk hxk
 ·exact do_1 ths g k a1 a2 a3 x w hx hox ha1 ha2 hk hxk
 ·exact do_2 ths g k a1 a2 a3 x w hx hox ha1 ha2 hk hxk
 ·exact do_3 ths g k a1 a2 a3 x w hx hox ha1 ha2 hk hxk
 ·exact do_4 ths g k a1 a2 a3 x w hx hox ha1 ha2 hk hxk
 ·exact do_5 ths g k a1 a2 a3 x w hx hox ha1 ha2 hk hxk
 ·exact do_6 ths g k a1 a2 a3 x w hx hox ha1 ha2 hk hxk
 ·exact do_7 ths g k a1 a2 a3 x w hx hox ha1 ha2 hk hxk
 ·exact do_8 ths g k a1 a2 a3 x w hx hox ha1 ha2 hk hxk
 ·exact do_9 ths g k a1 a2 a3 x w hx hox ha1 ha2 hk hxk
 ·exact do_10 ths g k a1 a2 a3 x w hx hox ha1 ha2 hk hxk
 ·exact do_11 ths g k a1 a2 a3 x w hx hox ha1 ha2 hk hxk
 ·exact do_12 ths g k a1 a2 a3 x w hx hox ha1 ha2 hk hxk
 ·exact do_13 ths g k a1 a2 a3 x w hx hox ha1 ha2 hk hxk
 ·exact do_14 ths g k a1 a2 a3 x w hx hox ha1 ha2 hk hxk
 ·exact do_15 ths g k a1 a2 a3 x w hx hox ha1 ha2 hk hxk
 ·exact do_16 ths g k a1 a2 a3 x w hx hox ha1 ha2 hk hxk
 ·exact do_17 ths g k a1 a2 a3 x w hx hox ha1 ha2 hk hxk
 ·exact do_18 ths g k a1 a2 a3 x w hx hox ha1 ha2 hk hxk
end Go.Proofs.YtiiaingepbkikaaGreatDoor
namespace Go.Proofs.YtiiaingepbkikaaGreatDoor
open Go.RowKit
set_option linter.unusedVariables false
set_option maxRecDepth 100000 in
set_option maxHeartbeats 4000000 in
theorem thing_none (root : Int) (w : World) :
 Calls Tryz.prog 15 #[.int .i64 root, .agg #[.pointer none, .pointer none, .pointer none]] w fun e w' => e = .returned (.string ⟨#[]⟩) ∧ Below w.heap.size w w' := by
 go_enter Tryz.func15, Tryz.ntmps15
 go_wp2
 go_ret
 exact ⟨rfl, (Below.refl _ _).alloc (Nat.le_refl _) _⟩
def faultP (line e : Int) : Bys := lineP [[108, 105, 110, 101], Lib.itoa line, wordP e]
theorem fault_len (line e : Int) (h0 : -9223372036854775808 ≤ line) (h1 : line ≤ 9223372036854775807) (h2 : -9223372036854775808 ≤ e) (h3 : e ≤ 9223372036854775807) :
 (Lib.join [[108, 105, 110, 101], Lib.itoa line, wordP e] [32]).length ≤ 1000000 := by
 have := itoa_len line h0 h1
 have := wordP_len e h2 h3
 rw [Lib.join_cons]
 simp only [Lib.joinTail, List.map_cons, List.map_nil, List.flatten_cons, List.flatten_nil, List.length_append, List.length_cons, List.length_nil]
 omega
set_option maxRecDepth 100000 in
set_option maxHeartbeats 4000000 in
theorem fault_any (ln er : Int) (w : World) (h0 : -9223372036854775808 ≤ ln) (h1 : ln ≤ 9223372036854775807) (h2 : -9223372036854775808 ≤ er) (h3 : er ≤ 9223372036854775807) (htab : PowTab w) :
 Calls Tryz.prog 10 #[.agg #[.int .i64 ln, .int .i64 er]] w fun e w' => e = .returned (.string (str (faultP ln er))) ∧ Below w.heap.size w w' := by
 have HT := Lib.hid htab
 have HP := Lib.hid (And.intro h0 (And.intro h1 (And.intro h2 h3)))
 have HBX : Hid (Bk (w.alloc (.cells #[.int .i64 ln, .int .i64 er] 26)) w.heap.size 26 #[.int .i64 ln, .int .i64 er]) := Bk.new w _ _
 have HB1 : Hid (Below w.heap.size w (w.alloc (.cells #[.int .i64 ln, .int .i64 er] 26))) := (Below.refl _ _).alloc (Nat.le_refl _) _
 clear htab h0 h1 h2 h3
 go_enter Tryz.func10, Tryz.ntmps10
 go_wp2_with fail
 obtain ⟨W1, hW1⟩ : ∃ W1, w.alloc (.cells #[.int .i64 ln, .int .i64 er] 26) = W1 := ⟨_, rfl⟩
 rw [hW1] at HBX HB1 ⊢
 clear hW1
 have hz1 := HB1.out.size
 have hlt0 := HBX.out.lt
 have d0 := HBX.out.cell 0
 have d1 := HBX.out.cell 1
 simp at d0 d1
 have e0 : W1.drew.cell? ⟨w.heap.size, 0, none⟩ = some (.int .i64 ln) := d0
 have e1 : W1.drew.cell? ⟨w.heap.size, 1, none⟩ = some (.int .i64 er) := d1
 have HTd : Hid (PowTab W1.drew) := HT.out.below HB1.out.drew
 have HBd := Lib.hid ((Below.refl W1.heap.size W1).drew)
 have hzd : W1.heap.size ≤ W1.drew.heap.size := Nat.le_refl _
 obtain ⟨I, hI⟩ : ∃ I, str (Lib.itoa ln) = I := ⟨_, rfl⟩
 obtain ⟨D, hD⟩ : ∃ D, str (wordP er) = D := ⟨_, rfl⟩
 have HI := Lib.hid hI
 have HD := Lib.hid hD
 have HLe := Lib.hid (fault_len ln er HP.out.1 HP.out.2.1 HP.out.2.2.1 HP.out.2.2.2)
 have HX : Hid ([⟨#[108, 105, 110, 101]⟩, I, D].map (·.data.toList) = [[108, 105, 110, 101], Lib.itoa ln, wordP er]) := by
  show _ = _
  simp only [List.map_cons, List.map_nil, ← hI, ← hD, str_list]
 clear hI hD
 go_region_held3 (fun w' => w'.cell? ⟨w.heap.size, 0, none⟩ = some (.int .i64 ln) ∧ w'.cell? ⟨w.heap.size, 1, none⟩ = some (.int .i64 er))
  (first | exact ⟨f0, f1⟩ | exact ⟨e0, e1⟩ | exact ⟨d0, d1⟩ | go_keep)
  (first
    | (go_at_call 32
       refine (itoa_any ln HP.out.1 HP.out.2.1 _ HTd.out).mono ?_
       rintro e wn ⟨rfl, hbn⟩
       rw [HI.out]
       have HTd := Lib.hid (HTd.out.below hbn)
       have HBd := Lib.hid (HBd.out.trans (hbn.mono hzd))
       have hzd := HBd.out.size
       have e0 := (hbn.cell (p := ⟨w.heap.size, 0, none⟩) (World.block_lt_of_cell? _ _ e0)).trans e0
       have e1 := (hbn.cell (p := ⟨w.heap.size, 1, none⟩) (World.block_lt_of_cell? _ _ e1)).trans e1
       clear hbn)
    | (go_at_call 16
       refine (word_any er HP.out.2.2.1 HP.out.2.2.2 _ HTd.out).mono ?_
       rintro e wn ⟨rfl, hbn⟩
       rw [HD.out]
       have HTd := Lib.hid (HTd.out.below hbn)
       have HBd := Lib.hid (HBd.out.trans (hbn.mono hzd))
       have hzd := HBd.out.size
       have e0 := (hbn.cell (p := ⟨w.heap.size, 0, none⟩) (World.block_lt_of_cell? _ _ e0)).trans e0
       have e1 := (hbn.cell (p := ⟨w.heap.size, 1, none⟩) (World.block_lt_of_cell? _ _ e1)).trans e1
       have HRs : Hid (RdS (wn.alloc (.cells #[.string ⟨#[108, 105, 110, 101]⟩, .string I, .string D] 9)) (wn.heap.size + 1) (some ⟨wn.heap.size, 0, none⟩) 3 [⟨#[108, 105, 110, 101]⟩, I, D]) := Rd.newAt wn #[.string ⟨#[108, 105, 110, 101]⟩, .string I, .string D] _ _ rfl (size := 1) (m := 3) rfl (by simp [maxLen])
       have HBa := Lib.hid (HBd.out.alloc hzd (.cells #[.string ⟨#[108, 105, 110, 101]⟩, .string I, .string D] 9))
       clear hbn)
    | (go_at_call 31
       refine (line_any _ _ _ _ _ (HRs.out.more (by rw [World.size_alloc]; exact Nat.le_refl _)) (by decide) (by decide) (by decide) (by rw [HX.out]; exact HLe.out)).mono ?_
       rintro e wm ⟨rfl, hbm⟩
       rw [HX.out]
       have HBm := Lib.hid (HBa.out.trans (hbm.mono HBa.out.size))
       have f0 := (HBm.out.cell (p := ⟨w.heap.size, 0, none⟩) hlt0).trans d0
       have f1 := (HBm.out.cell (p := ⟨w.heap.size, 1, none⟩) hlt0).trans d1
       clear hbm))
 all_goals
  have HBw := Lib.hid (HB1.out.trans (HBm.out.mono hz1))
  go_wp2
  go_ret
  exact ⟨rfl, HBw.out⟩
def sumsP (pk sw wd lb : Int) : Bys := lineP [[112, 105, 99, 107, 115], Lib.itoa pk, [115, 119, 97, 112, 115], Lib.itoa sw, [119, 111, 114, 100, 115], Lib.itoa wd, [108, 105, 109, 98, 111], Lib.itoa lb]
theorem sums_len (pk sw wd lb : Int) (h : ∀ x ∈ [pk, sw, wd, lb], -9223372036854775808 ≤ x ∧ x ≤ 9223372036854775807) : (Lib.join [[112, 105, 99, 107, 115], Lib.itoa pk, [115, 119, 97, 112, 115], Lib.itoa sw, [119, 111, 114, 100, 115], Lib.itoa wd, [108, 105, 109, 98, 111], Lib.itoa lb] [32]).length ≤ 1000000 := by
 have h0 := itoa_len pk (h pk (by simp)).1 (h pk (by simp)).2
 have h1 := itoa_len sw (h sw (by simp)).1 (h sw (by simp)).2
 have h2 := itoa_len wd (h wd (by simp)).1 (h wd (by simp)).2
 have h3 := itoa_len lb (h lb (by simp)).1 (h lb (by simp)).2
 rw [Lib.join_cons]
 simp only [Lib.joinTail, List.map_cons, List.map_nil, List.flatten_cons, List.flatten_nil, List.length_append, List.length_cons, List.length_nil]
 omega
set_option maxRecDepth 100000 in
set_option maxHeartbeats 4000000 in
theorem sums_any (pk sw wd lb : Int) (w : World) (h : ∀ x ∈ [pk, sw, wd, lb], -9223372036854775808 ≤ x ∧ x ≤ 9223372036854775807) (htab : PowTab w) :
 Calls Tryz.prog 12 #[.int .i64 pk, .agg #[.int .i64 sw, .int .i64 wd, .int .i64 lb]] w fun e w' => e = .returned (.string (str (sumsP pk sw wd lb))) ∧ Below w.heap.size w w' := by
 have HT := Lib.hid htab
 have HP0 := Lib.hid (h pk (by simp))
 have HP1 := Lib.hid (h sw (by simp))
 have HP2 := Lib.hid (h wd (by simp))
 have HP3 := Lib.hid (h lb (by simp))
 have HLe := Lib.hid (sums_len pk sw wd lb h)
 have HBX : Hid (Bk (w.alloc (.cells #[.int .i64 sw, .int .i64 wd, .int .i64 lb] 28)) w.heap.size 28 #[.int .i64 sw, .int .i64 wd, .int .i64 lb]) := Bk.new w _ _
 have HB1 : Hid (Below w.heap.size w (w.alloc (.cells #[.int .i64 sw, .int .i64 wd, .int .i64 lb] 28))) := (Below.refl _ _).alloc (Nat.le_refl _) _
 clear htab h
 go_enter Tryz.func12, Tryz.ntmps12
 go_wp2_with fail
 obtain ⟨W1, hW1⟩ : ∃ W1, w.alloc (.cells #[.int .i64 sw, .int .i64 wd, .int .i64 lb] 28) = W1 := ⟨_, rfl⟩
 rw [hW1] at HBX HB1 ⊢
 clear hW1
 have hz1 := HB1.out.size
 have hlt0 := HBX.out.lt
 have d0 := HBX.out.cell 0
 have d1 := HBX.out.cell 1
 have d2 := HBX.out.cell 2
 simp at d0 d1 d2
 have e0 : W1.drew.cell? ⟨w.heap.size, 0, none⟩ = some (.int .i64 sw) := d0
 have e1 : W1.drew.cell? ⟨w.heap.size, 1, none⟩ = some (.int .i64 wd) := d1
 have e2 : W1.drew.cell? ⟨w.heap.size, 2, none⟩ = some (.int .i64 lb) := d2
 have HTd : Hid (PowTab W1.drew) := HT.out.below HB1.out.drew
 have HBd := Lib.hid ((Below.refl W1.heap.size W1).drew)
 have hzd : W1.heap.size ≤ W1.drew.heap.size := Nat.le_refl _
 obtain ⟨V0, hV0⟩ : ∃ V, str (Lib.itoa pk) = V := ⟨_, rfl⟩
 have HV0 := Lib.hid hV0
 obtain ⟨V1, hV1⟩ : ∃ V, str (Lib.itoa sw) = V := ⟨_, rfl⟩
 have HV1 := Lib.hid hV1
 obtain ⟨V2, hV2⟩ : ∃ V, str (Lib.itoa wd) = V := ⟨_, rfl⟩
 have HV2 := Lib.hid hV2
 obtain ⟨V3, hV3⟩ : ∃ V, str (Lib.itoa lb) = V := ⟨_, rfl⟩
 have HV3 := Lib.hid hV3
 have HX : Hid ([⟨#[112, 105, 99, 107, 115]⟩, V0, ⟨#[115, 119, 97, 112, 115]⟩, V1, ⟨#[119, 111, 114, 100, 115]⟩, V2, ⟨#[108, 105, 109, 98, 111]⟩, V3].map (·.data.toList) = [[112, 105, 99, 107, 115], Lib.itoa pk, [115, 119, 97, 112, 115], Lib.itoa sw, [119, 111, 114, 100, 115], Lib.itoa wd, [108, 105, 109, 98, 111], Lib.itoa lb]) := by
  show _ = _
  simp only [List.map_cons, List.map_nil, ← hV0, ← hV1, ← hV2, ← hV3, str_list]
 clear hV0 hV1 hV2 hV3
 go_region_held3 (fun w' => w'.cell? ⟨w.heap.size, 0, none⟩ = some (.int .i64 sw) ∧ w'.cell? ⟨w.heap.size, 1, none⟩ = some (.int .i64 wd) ∧ w'.cell? ⟨w.heap.size, 2, none⟩ = some (.int .i64 lb))
  (first | exact ⟨f0, f1, f2⟩ | exact ⟨e0, e1, e2⟩ | exact ⟨d0, d1, d2⟩ | go_keep)
  (first
    | (go_at_call 32
       refine (itoa_any _ (by first | exact HP0.out.1 | exact HP1.out.1 | exact HP2.out.1 | exact HP3.out.1) (by first | exact HP0.out.2 | exact HP1.out.2 | exact HP2.out.2 | exact HP3.out.2) _ HTd.out).mono ?_
       rintro e wn ⟨rfl, hbn⟩
       first | rw [HV0.out] | rw [HV1.out] | rw [HV2.out] | rw [HV3.out]
       have HTd := Lib.hid (HTd.out.below hbn)
       have HBd := Lib.hid (HBd.out.trans (hbn.mono hzd))
       have hzd := HBd.out.size
       have e0 := (hbn.cell (p := ⟨w.heap.size, 0, none⟩) (World.block_lt_of_cell? _ _ e0)).trans e0
       have e1 := (hbn.cell (p := ⟨w.heap.size, 1, none⟩) (World.block_lt_of_cell? _ _ e1)).trans e1
       have e2 := (hbn.cell (p := ⟨w.heap.size, 2, none⟩) (World.block_lt_of_cell? _ _ e2)).trans e2
       have HRs : Hid (RdS (wn.alloc (.cells #[.string ⟨#[112, 105, 99, 107, 115]⟩, .string V0, .string ⟨#[115, 119, 97, 112, 115]⟩, .string V1, .string ⟨#[119, 111, 114, 100, 115]⟩, .string V2, .string ⟨#[108, 105, 109, 98, 111]⟩, .string V3] 9)) (wn.heap.size + 1) (some ⟨wn.heap.size, 0, none⟩) 8 [⟨#[112, 105, 99, 107, 115]⟩, V0, ⟨#[115, 119, 97, 112, 115]⟩, V1, ⟨#[119, 111, 114, 100, 115]⟩, V2, ⟨#[108, 105, 109, 98, 111]⟩, V3]) := Rd.newAt wn #[.string ⟨#[112, 105, 99, 107, 115]⟩, .string V0, .string ⟨#[115, 119, 97, 112, 115]⟩, .string V1, .string ⟨#[119, 111, 114, 100, 115]⟩, .string V2, .string ⟨#[108, 105, 109, 98, 111]⟩, .string V3] _ _ rfl (size := 1) (m := 8) rfl (by simp [maxLen])
       have HBa := Lib.hid (HBd.out.alloc hzd (.cells #[.string ⟨#[112, 105, 99, 107, 115]⟩, .string V0, .string ⟨#[115, 119, 97, 112, 115]⟩, .string V1, .string ⟨#[119, 111, 114, 100, 115]⟩, .string V2, .string ⟨#[108, 105, 109, 98, 111]⟩, .string V3] 9))
       clear hbn)
    | (go_at_call 31
       refine (line_any _ _ _ _ _ (HRs.out.more (by rw [World.size_alloc]; exact Nat.le_refl _)) (by decide) (by decide) (by decide) (by rw [HX.out]; exact HLe.out)).mono ?_
       rintro e wm ⟨rfl, hbm⟩
       rw [HX.out]
       have HBm := Lib.hid (HBa.out.trans (hbm.mono HBa.out.size))
       have f0 := (HBm.out.cell (p := ⟨w.heap.size, 0, none⟩) hlt0).trans d0
       have f1 := (HBm.out.cell (p := ⟨w.heap.size, 1, none⟩) hlt0).trans d1
       have f2 := (HBm.out.cell (p := ⟨w.heap.size, 2, none⟩) hlt0).trans d2
       clear hbm))
 all_goals
  have HBw := Lib.hid (HB1.out.trans (HBm.out.mono hz1))
  go_wp2
  go_ret
  exact ⟨rfl, HBw.out⟩
end Go.Proofs.YtiiaingepbkikaaGreatDoor
namespace Go.Proofs.YtiiaingepbkikaaGreatDoor
open Go.RowKit
set_option linter.unusedVariables false
theorem size_builder : (Tryz.prog.info? 97).map (·.size) = some 2 := by kernel_rfl
theorem lies_builder : liesAt Tryz.prog Tryz.prog.depth 97 (2 / Tryz.prog.cellsOf 97) 0 97 1 = true := by kernel_rfl
theorem info_byte : (Tryz.prog.info? 5).map (fun i => (i.zero, i.size, i.bytes)) = some (some (.int .u8 0), 1, 1) := by kernel_rfl
set_option maxRecDepth 100000 in
theorem copy_used (b : Nat) (w : World) (h0 : w.cell? ⟨b, 0, none⟩ = some (.pointer (some ⟨b, 0, none⟩))) :
 Calls Tryz.prog 58 #[.pointer (some ⟨b, 0, none⟩)] w fun e w' => e = .returned (.tuple #[]) ∧ w' = w := by
 obtain ⟨j, hj, _⟩ := Option.map_eq_some_iff.1 size_builder
 go_enter Tryz.func58, Tryz.ntmps58
 go_wp2
 rw [Lib.run_neq_ptr_same w _ Tryz.underlying94 hj]
 go_wp2
 go_end0
 exact ⟨rfl, rfl⟩
set_option maxRecDepth 100000 in
set_option maxHeartbeats 1000000 in
theorem copy_fresh (b : Nat) (w : World) (h0 : w.cell? ⟨b, 0, none⟩ = some (.pointer none)) (hsh : w.shape? b = some (97, 2)) (hfz : w.frozen? ⟨b, 0, none⟩ = false) :
 Calls Tryz.prog 58 #[.pointer (some ⟨b, 0, none⟩)] w fun e w' => e = .returned (.tuple #[]) ∧ w' = w.setCell ⟨b, 0, none⟩ (.pointer (some ⟨b, 0, none⟩)) := by
 obtain ⟨j, hj, hjs⟩ := Option.map_eq_some_iff.1 size_builder
 go_enter Tryz.func58, Tryz.ntmps58
 go_wp2
 rw [Lib.run_to_unsafe w ⟨b, 0, none⟩ Tryz.underlying94 Tryz.underlying141 hj (by rw [hjs]; decide) hsh (Nat.zero_lt_succ 1)]
 simp only [Result.andThen]
 rw [Oper.upon_value]
 go_wp2
 rw [run_callFunc_extern Tryz.func71 (by kernel_rfl) (by kernel_rfl) (by kernel_rfl) (e := Extern.AbiNoEscape.same) (by kernel_rfl)]
 rw [Lib.run_noEscape]
 simp only [Result.andThen]
 rw [Oper.upon_value]
 go_wp2
 rw [Lib.run_from_unsafe w ⟨b, 0, none⟩ Tryz.underlying141 Tryz.underlying94 hj hsh lies_builder]
 simp only [Result.andThen]
 rw [Oper.upon_value]
 go_wp2
 go_end0
 exact ⟨rfl, rfl⟩
abbrev Bld (B b : Nat) (bs : List Value) (w : World) : Prop := Lib.IsBuilderF 97 5 B b bs w
structure FrmB (B b : Nat) (w w' : World) : Prop where
 below : Below B w w'
 kept : Lib.OthersKept 5 (some b) w w'
theorem FrmB.refl (B b : Nat) (w : World) : FrmB B b w w := ⟨Below.refl _ _, Lib.OthersKept.refl _ _ _⟩
theorem FrmB.trans {B b : Nat} {a c d : World} (h : FrmB B b a c) (k : FrmB B b c d) : FrmB B b a d := ⟨h.below.trans k.below, h.kept.trans k.kept⟩
theorem copy_any (B b : Nat) (bs : List Value) (w : World) (h : Bld B b bs w) :
 Calls Tryz.prog 58 #[.pointer (some ⟨b, 0, none⟩)] w fun e w' => e = .returned (.tuple #[]) ∧ Lib.BuilderAtF 97 5 B b (.pointer (some ⟨b, 0, none⟩)) bs w' ∧ FrmB B b w w' := by
 rcases h with h | h
 ·refine (copy_fresh b w h.cell0 h.shape h.frozen0).mono ?_
  rintro e w' ⟨rfl, rfl⟩
  exact ⟨rfl, h.used _, (Below.refl B w).setCell (p := ⟨b, 0, none⟩) h.1 _, (Lib.OthersKept.refl _ _ w).setCell ⟨b, 0, none⟩ rfl _⟩
 ·refine (copy_used b w h.cell0).mono ?_
  rintro e w' ⟨rfl, rfl⟩
  exact ⟨rfl, h, FrmB.refl _ _ _⟩
set_option maxHeartbeats 2000000 in
set_option maxRecDepth 100000 in
theorem wstring_any (B b : Nat) (bs : List Value) (s : ByteArray) (w : World) (h : Bld B b bs w) (hlen : bs.length + s.size ≤ 140737488355328) (hBw : B ≤ w.heap.size) :
 Calls Tryz.prog 27 #[.pointer (some ⟨b, 0, none⟩), .string s] w fun e w' => e = .returned (.tuple #[.int .i64 s.size, .nilIface]) ∧ Bld B b (bs ++ Lib.strCells s) w' ∧ FrmB B b w w' := by
 obtain ⟨i0, hi, hz0, hz1, hz2⟩ := info_parts info_byte
 go_enter Tryz.func27, Tryz.ntmps27
 go_wp2_with (go_at_call 58; refine (copy_any B b bs _ h).mono ?_)
 rintro e w1 ⟨rfl, h1, hb1, hk1⟩
 obtain ⟨hB, v, hbk, hown, hne⟩ := h1
 have c0 : w1.cell? ⟨b, 0, none⟩ = some (.pointer (some ⟨b, 0, none⟩)) := by rw [Lib.cell_of_heap hbk]; rfl
 have c1 : w1.cell? ⟨b, 1, none⟩ = some v := by rw [Lib.cell_of_heap hbk]; rfl
 go_wp2_with (at_builtin; refine Lib.wpList_append_own_stringF _ rfl _ _ 95 9 rfl B 5 i0 Tryz.underlying95 Tryz.underlying9 hi hz0 hz1 hz2 _ _ _ rfl hown s rfl ?c3 ?c4 ?c5 ?_)
 case c3 => unfold maxLen; omega
 case c4 => omega
 case c5 => have := hb1.size; omega
 intro v' w2 hown' hgrow _
 have hlt : b < w1.heap.size := by
  rcases Nat.lt_or_ge b w1.heap.size with h' | h'
  ·exact h'
  ·simp [Array.getElem?_eq_none h'] at hbk
 have hb2 : w2.heap[b]? = some (.cells #[.pointer (some ⟨b, 0, none⟩), v] 97 (0, 0)) := by
  rw [hgrow.block b hlt (fun e => hne e.symm)]
  exact hbk
 have d0 : w2.cell? ⟨b, 0, none⟩ = some (.pointer (some ⟨b, 0, none⟩)) := by rw [Lib.cell_of_heap hb2]; rfl
 have d1 : w2.cell? ⟨b, 1, none⟩ = some v := by rw [Lib.cell_of_heap hb2]; rfl
 have f1 : w2.frozen? ⟨b, 1, none⟩ = false := Lib.frozen_of_heap hb2 1
 obtain ⟨ao, n', cap, rfl⟩ : ∃ ao n' cap, v' = .slice ao n' cap := by
  rcases hown'.2 with ⟨hv, _⟩ | ⟨g, cap, cur, fz, hv, _⟩
  ·exact ⟨_, _, _, hv⟩
  ·exact ⟨_, _, _, hv⟩
 go_wp2
 go_ret2
 refine ⟨rfl, .inr ?_, ?_, (hk1.grown hgrow (Lib.ownsRowF_kind hown)).setCell ⟨b, 1, none⟩ rfl _⟩
 ·exact Lib.BuilderAtF.put (T := 97) (e := 5) hB hb2 (bs' := bs ++ Lib.strCells s) (by simpa [Lib.strCells_length] using hown') (by decide)
 ·exact (hb1.grown hgrow (by have := hb1.size; omega) (fun k hk => (hown.lt k hk).1)).setCell (p := ⟨b, 1, none⟩) hB _
end Go.Proofs.YtiiaingepbkikaaGreatDoor

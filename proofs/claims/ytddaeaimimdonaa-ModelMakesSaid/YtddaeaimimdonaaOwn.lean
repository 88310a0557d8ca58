/-
  Rows that a call makes for itself: append from a slice that is read; a block that is known whole. No program in sight.
-/
import Derived.Test.YtddaeaimimdonaaRd
import Derived.Maps.AppendAt
import Derived.OwnWalk
import Derived.Laws.OwnMore
import Derived.Lib.SlBytesConst
import Derived.Laws.BytesArg
namespace Go.Proofs.Ytddaeaimimdonaa
open Go.RowKit
set_option linter.unusedVariables false

/-- A slice that was made of new cells just now. -/
theorem Rd.new (w : World) (cs : Array Value) (t : TypeId) {size m : Nat} (hs : cs.size = m * size) (hm : m ≤ maxLen) :
    Rd (w.alloc (.cells cs t)) (w.heap.size + 1) size (some ⟨w.heap.size, 0, none⟩) m cs.toList := by
  refine ⟨by simpa using hs, hm, fun _ => ⟨w.heap.size, 0, rfl, by omega, fun j u hu => ?_⟩⟩
  rw [World.cell?_alloc_at _ _ _ _ rfl]
  simpa using hu

theorem Rd.newAt (w : World) (cs : Array Value) (t : TypeId) (g : Nat) (hg : g = w.heap.size) {size m : Nat} (hs : cs.size = m * size) (hm : m ≤ maxLen) :
    Rd (w.alloc (.cells cs t)) (g + 1) size (some ⟨g, 0, none⟩) m cs.toList := by
  subst hg; exact Rd.new w cs t hs hm

/-- Block g is just these cells. -/
def Bk (w : World) (g : Nat) (t : TypeId) (cs : Array Value) : Prop := w.heap[g]? = some (.cells cs t (0, 0))
section
variable {w w' : World} {g : Nat} {t : TypeId} {cs : Array Value}
theorem Bk.lt (h : Bk w g t cs) : g < w.heap.size := (Array.getElem?_eq_some_iff.1 h).1
theorem Bk.cell (h : Bk w g t cs) (i : Nat) : w.cell? ⟨g, i, none⟩ = cs[i]? := by
  unfold Bk at h
  simp [World.cell?, h]
theorem Bk.frozen (h : Bk w g t cs) (i : Nat) : w.frozen? ⟨g, i, none⟩ = false := by
  unfold Bk at h
  simp [World.frozen?, h]
theorem Bk.new (w : World) (t : TypeId) (cs : Array Value) : Bk (w.alloc (.cells cs t)) w.heap.size t cs := heap_alloc_new w _
theorem Bk.below {B : Nat} (h : Bk w g t cs) (hb : Below B w w') (hg : g < B) : Bk w' g t cs := (hb.block g hg).trans h
theorem Bk.grown {row : Option Nat} (h : Bk w g t cs) (hb : w.grownBy w' row) (hg : row ≠ some g) : Bk w' g t cs := (hb.block g h.lt (fun e => hg e.symm)).trans h
theorem Bk.alloc (h : Bk w g t cs) (o : Obj) : Bk (w.alloc o) g t cs := (Below.heap_alloc w o g h.lt).trans h
theorem Bk.drew (h : Bk w g t cs) : Bk w.drew g t cs := h
theorem Bk.set_ (h : Bk w g t cs) (i : Nat) (u : Value) : Bk (w.setCell ⟨g, i, none⟩ u) g t (cs.setIfInBounds i u) := by
  unfold Bk at h ⊢
  simp [World.setCell, Array.getElem?_modify, h]
theorem Bk.ne_own {base : Nat} {e : TypeId} {size n : Nat} {v : Value} {xs : List Value} (hg : Bk w g t cs) (h : w.ownsRow base e size v n xs) (hne : e ≠ t) : v.ownBlock ≠ some g := by
  rcases h.2 with ⟨rfl, _⟩ | ⟨g', cap, cur, rfl, _, hh, _⟩
  · simp [Value.ownBlock]
  · intro he
    obtain rfl : g' = g := by simpa [Value.ownBlock] using he
    unfold Bk at hg
    rw [hg] at hh
    injection hh with hh
    injection hh with _ ht
    exact hne ht.symm
end

/-- A constant text as bytes: its row has a mark behind its last cell. -/
theorem Rd.marked (w : World) (cs : Array Value) (t : TypeId) (fr : Nat × Nat) {size m : Nat} (hs : cs.size = m * size) (hm : m ≤ maxLen) :
    Rd (w.alloc (.cells cs t fr)) (w.heap.size + 1) size (some ⟨w.heap.size, 0, none⟩) m cs.toList := by
  refine ⟨by simpa using hs, hm, fun _ => ⟨w.heap.size, 0, rfl, by omega, fun j u hu => ?_⟩⟩
  rw [Nat.zero_add, World.cell?_alloc_mark]
  simpa using hu
theorem own_new (w : World) (cs : Array Value) (t : TypeId) {size m base : Nat} (hs : cs.size = m * size) (hm : m ≤ maxLen) (hb : base ≤ w.heap.size) :
    (w.alloc (.cells cs t)).ownsRow base t size (.slice (some ⟨w.heap.size, 0, none⟩) m m) m cs.toList :=
  ⟨by simpa using hs, .inr ⟨w.heap.size, m, cs, rfl, hb, heap_alloc_new w _, Nat.le_refl _, hm, hs, by rw [List.take_of_length_le]; simp [hs]⟩⟩

/-- A row of the call's own is kept by whatever turns nothing below the heap's end. -/
theorem own_below {w w' : World} {base : Nat} {e : TypeId} {size n : Nat} {v : Value} {xs : List Value} (h : w.ownsRow base e size v n xs) (hb : Below w.heap.size w w') : w'.ownsRow base e size v n xs :=
  h.kept (row := none) ⟨hb.os, hb.tape, hb.output, hb.size, fun k hk _ => hb.block k hk⟩ (by
    cases hv : v.ownBlock with
    | none => exact .inl rfl
    | some b => exact .inr (by simp))
theorem own_base {w : World} {base base' : Nat} {e : TypeId} {size n : Nat} {v : Value} {xs : List Value} (h : w.ownsRow base e size v n xs) (hb : base' ≤ base) : w.ownsRow base' e size v n xs := by
  refine ⟨h.1, ?_⟩
  rcases h.2 with hn | ⟨g, cap, cur, hv, hg, rest⟩
  · exact .inl hn
  · exact .inr ⟨g, cap, cur, hv, Nat.le_trans hb hg, rest⟩

section
variable {P : Program} (w : World)
theorem run_app_nil (base : Nat) (t ty e : TypeId) (i : TypeInfo) (size : Nat) (ht : P.underlying t = some (.slice e)) (hi : P.info? e = some i)
    (v : Value) (n : Nat) (xs : List Value) (hown : w.ownsRow base e size v n xs) (c : Nat) : (Builtin.append_ #[t, t] ty #[v, .slice none 0 c]).run P w = .ok v w := by
  rcases hown.2 with ⟨rfl, rfl⟩ | ⟨g, cap, cur, rfl, _, _, hnc, _⟩
  · simp [Builtin.append_, run_underlying ht, sizeOf, typeInfo, hi, Builtin.lenOf, Builtin.firstCells]
  · simp [Builtin.append_, run_underlying ht, sizeOf, typeInfo, hi, Builtin.lenOf, Builtin.firstCells, hnc, storeCells]

theorem run_app (base : Nat) (t ty e : TypeId) (i : TypeInfo) (z : Value) (size bytes : Nat) (ht : P.underlying t = some (.slice e)) (hi : P.info? e = some i) (hz : i.zero = some z)
    (hsize : i.size = size) (hby : i.bytes = bytes) (hzs : z.cells.size = size) (hsz : 0 < size)
    (v : Value) (n : Nat) (xs : List Value) (hown : w.ownsRow base e size v n xs)
    (B : Nat) (A : Option Addr) (m c : Nat) (news : List Value) (hr : Rd w B size A m news) (h1 : ∀ u ∈ news, u.oneCell' = true)
    (h63 : n + m ≤ maxLen) (hbytes : (n + m) * bytes ≤ 140737488355328) (hbase : base ≤ w.heap.size) :
    ∃ v' w', (Builtin.append_ #[t, t] ty #[v, .slice A m c]).run P w = .ok v' w' ∧ w'.ownsRow base e size v' (n + m) (xs ++ news) ∧ w.grownBy w' v.ownBlock ∧
      (v'.ownBlock = v.ownBlock ∨ v'.ownBlock = some w.heap.size) := by
  rcases A with _ | ad
  · have hm : m = 0 := by
      rcases Nat.eq_zero_or_pos m with h0 | h0
      · exact h0
      · obtain ⟨b, o, h, _⟩ := hr.at_ h0
        cases h
    subst hm
    have hn : news = [] := List.eq_nil_of_length_eq_zero (by simpa using hr.len)
    subst hn
    exact ⟨v, w, run_app_nil w base t ty e i size ht hi v n xs hown c, by simpa using hown, World.grownBy.refl w _, .inl rfl⟩
  · have hcells : ∀ j u, news[j]? = some u → w.cell? (ad.add j) = some u := by
      intro j u hu
      rcases Nat.eq_zero_or_pos m with h0 | h0
      · subst h0
        have hn : news = [] := List.eq_nil_of_length_eq_zero (by simpa using hr.len)
        subst hn
        simp at hu
      · obtain ⟨b, o, h, _, hc⟩ := hr.at_ h0
        injection h with h
        subst h
        have := hc j u hu
        unfold Addr.add
        split
        · rename_i hj
          subst hj
          exact this
        · exact this
    obtain ⟨v', w', hrun, h2, h3, _, h5⟩ := run_append_own_at (P := P) w base t ty e i z size bytes ht hi hz hsize hby hzs hsz v n xs hown ad m c news hr.len hcells h1 h63 hbytes hbase
    exact ⟨v', w', hrun, h2, h3, h5⟩

/-- 'x = append(s, x..)', s a row of the call's own, x a slice that is read (nil too). -/
theorem wpList_app {ops : Array Oper} {rest : List Oper} {o : Oper} {a : Act} {Q : Exit → Act → World → Prop} (hgd : o.guard = none) (s x : Operand) (t : TypeId)
    (ho : o.op = .call { callee := .builtin .append, args := #[s, x], argTypes := #[t, t] })
    (base : Nat) (e : TypeId) (i : TypeInfo) (z : Value) (size bytes : Nat) (ht : P.underlying t = some (.slice e)) (hi : P.info? e = some i) (hz : i.zero = some z)
    (hsize : i.size = size) (hby : i.bytes = bytes) (hzs : z.cells.size = size) (hsz : 0 < size)
    (v : Value) (n : Nat) (xs : List Value) (hs : a.eval s = v) (hown : w.ownsRow base e size v n xs)
    (B : Nat) (A : Option Addr) (m c : Nat) (news : List Value) (hx : a.eval x = .slice A m c) (hr : Rd w B size A m news) (h1 : ∀ u ∈ news, u.oneCell' = true)
    (h63 : n + m ≤ maxLen) (hbytes : (n + m) * bytes ≤ 140737488355328) (hbase : base ≤ w.heap.size)
    (h : ∀ v' w', w'.ownsRow base e size v' (n + m) (xs ++ news) → w.grownBy w' v.ownBlock → (v'.ownBlock = v.ownBlock ∨ v'.ownBlock = some w.heap.size) → wpList P ops Q rest (a.put o.dst v') w') : wpList P ops Q (o :: rest) a w := by
  refine wpList_plain hgd fun K hK => ?_
  obtain ⟨v', w', hrun, h2, h3, h4⟩ := run_app (P := P) w base t o.type e i z size bytes ht hi hz hsize hby hzs hsz v n xs hown B A m c news hr h1 h63 hbytes hbase
  unfold Oper.wp execOp
  simp only [ho, resolve, invoke, builtin, Sem.run_bind, Sem.run_pure, Result.andThen_ok, List.map_toArray, List.map_cons, List.map_nil, hs, hx, hrun]
  exact hK _ _ (h v' w' h2 h3 h4)
theorem rd_cells {B size m : Nat} {ad : Addr} {news : List Value} (hr : Rd w B size (some ad) m news) (h0 : 0 < m) : ∀ j u, news[j]? = some u → w.cell? (ad.add j) = some u := by
  intro j u hu
  obtain ⟨b, o, h, _, hc⟩ := hr.at_ h0
  injection h with h
  subst h
  have := hc j u hu
  unfold Addr.add
  split
  · rename_i hj
    subst hj
    exact this
  · exact this

/-- 'append(s, x..)' where s has no room, whatever its block; x is not empty: a new row of the call's own. -/
theorem run_app_full (base : Nat) (t ty e : TypeId) (i : TypeInfo) (z : Value) (size bytes : Nat) (ht : P.underlying t = some (.slice e)) (hi : P.info? e = some i) (hz : i.zero = some z)
    (hsize : i.size = size) (hby : i.bytes = bytes) (hzs : z.cells.size = size)
    (B0 : Nat) (A0 : Option Addr) (n : Nat) (xs : List Value) (hxs : Rd w B0 size A0 n xs) (hn0 : 0 < n)
    (B : Nat) (A : Option Addr) (m c : Nat) (news : List Value) (hr : Rd w B size A m news) (hm0 : 0 < m)
    (h63 : n + m ≤ maxLen) (hbytes : (n + m) * bytes ≤ 140737488355328) (hbase : base ≤ w.heap.size) :
    ∃ v' w', (Builtin.append_ #[t, t] ty #[.slice A0 n n, .slice A m c]).run P w = .ok v' w' ∧ w'.ownsRow base e size v' (n + m) (xs ++ news) ∧ Below w.heap.size w w' ∧ v'.ownBlock = some w.heap.size := by
  subst hsize
  subst hby
  have hsmall : n + m ≤ 9223372036854775807 := by simp only [maxLen] at h63; omega
  obtain ⟨b0, o0, rfl, _, _⟩ := hxs.at_ hn0
  obtain ⟨b1, o1, rfl, _, _⟩ := hr.at_ hm0
  have hlen : (xs ++ news).length = (n + m) * i.size := by rw [List.length_append, hxs.len, hr.len, Nat.add_mul]
  have hrun := run_append_grow (P := P) w t ty e i z ht hi hz ⟨b0, o0, none⟩ n n xs hxs.len (rd_cells w hxs hn0) ⟨b1, o1, none⟩ m c news hr.len (rd_cells w hr hm0) (by omega) (by omega) (growslice_fits (by omega) hbytes)
  have hge := grownCap_ge w (n + m) n e
  have hcm : grownCap w (n + m) n e ≤ maxLen := grownCap_le_maxLen w (n + m) n e h63
  refine ⟨_, _, hrun, ⟨hlen, .inr ⟨w.heap.size, _, _, rfl, hbase, heap_alloc_new w.drew _, hge, hcm, ?_, ?_⟩⟩, ?_, rfl⟩
  · simp only [Array.size_append, List.size_toArray, size_zeroCells, hzs, hxs.len, hr.len, ← Nat.add_mul]
    congr 1
    omega
  · simp only [Array.toList_append, List.append_assoc]
    rw [← List.append_assoc, ← hlen]
    exact List.take_left
  · exact (Below.refl _ _).drew.alloc (Nat.le_refl _) _

theorem wpList_app_full {ops : Array Oper} {rest : List Oper} {o : Oper} {a : Act} {Q : Exit → Act → World → Prop} (hgd : o.guard = none) (s x : Operand) (t : TypeId)
    (ho : o.op = .call { callee := .builtin .append, args := #[s, x], argTypes := #[t, t] })
    (base : Nat) (e : TypeId) (i : TypeInfo) (z : Value) (size bytes : Nat) (ht : P.underlying t = some (.slice e)) (hi : P.info? e = some i) (hz : i.zero = some z)
    (hsize : i.size = size) (hby : i.bytes = bytes) (hzs : z.cells.size = size)
    (B0 : Nat) (A0 : Option Addr) (n : Nat) (xs : List Value) (hs : a.eval s = .slice A0 n n) (hxs : Rd w B0 size A0 n xs) (hn0 : 0 < n)
    (B : Nat) (A : Option Addr) (m c : Nat) (news : List Value) (hx : a.eval x = .slice A m c) (hr : Rd w B size A m news) (hm0 : 0 < m)
    (h63 : n + m ≤ maxLen) (hbytes : (n + m) * bytes ≤ 140737488355328) (hbase : base ≤ w.heap.size)
    (h : ∀ v' w', w'.ownsRow base e size v' (n + m) (xs ++ news) → Below w.heap.size w w' → v'.ownBlock = some w.heap.size → wpList P ops Q rest (a.put o.dst v') w') : wpList P ops Q (o :: rest) a w := by
  refine wpList_plain hgd fun K hK => ?_
  obtain ⟨v', w', hrun, h2, h3, h4⟩ := run_app_full (P := P) w base t o.type e i z size bytes ht hi hz hsize hby hzs B0 A0 n xs hxs hn0 B A m c news hr hm0 h63 hbytes hbase
  unfold Oper.wp execOp
  simp only [ho, resolve, invoke, builtin, Sem.run_bind, Sem.run_pure, Result.andThen_ok, List.map_toArray, List.map_cons, List.map_nil, hs, hx, hrun]
  exact hK _ _ (h v' w' h2 h3 h4)
end

theorem below_own {B : Nat} {a w w' : World} {base : Nat} {e : TypeId} {size n : Nat} {v : Value} {xs : List Value} (h : Below B a w) (hown : w.ownsRow base e size v n xs) (hg : w.grownBy w' v.ownBlock) (hB : B ≤ base) (hw : B ≤ w.heap.size) : Below B a w' :=
  h.grown hg hw fun k hk => Nat.le_trans hB (hown.lt k hk).1

/-- Bytes. -/
def byt (l : List Int) : List Value := l.map (Value.int .u8)
theorem byt_one (l : List Int) : ∀ u ∈ byt l, u.oneCell' = true := by
  intro u hu
  obtain ⟨x, _, rfl⟩ := List.mem_map.1 hu
  rfl
theorem byt_append (l r : List Int) : byt (l ++ r) = byt l ++ byt r := by simp [byt]
theorem byt_length (l : List Int) : (byt l).length = l.length := by simp [byt]
theorem insCells_one (l : List Ins) : ∀ u ∈ insCells l, u.oneCell' = true := by
  intro u hu
  obtain ⟨i, _, h⟩ := List.mem_flatMap.1 hu
  simp [Ins.cells] at h
  rcases h with rfl | rfl | rfl | rfl | rfl <;> rfl
abbrev RdB (w : World) (B : Nat) (A : Option Addr) (n : Nat) (l : List Int) : Prop := Rd w B 1 A n (byt l)
theorem Rd.bytLen {w : World} {B n : Nat} {A : Option Addr} {l : List Int} (h : RdB w B A n l) : l.length = n := by
  have := h.len; rw [byt_length] at this; omega
theorem Rd.bytAt {w : World} {B n : Nat} {A : Option Addr} {l : List Int} (h : RdB w B A n l) {k : Nat} (hk : k < n) :
    ∃ b o x, A = some ⟨b, o, none⟩ ∧ b < B ∧ l[k]? = some x ∧ w.cell? ⟨b, o + k, none⟩ = some (.int .u8 x) := by
  obtain ⟨b, o, e, hb, hc⟩ := h.at_ (by omega)
  have hl : k < l.length := by rw [h.bytLen]; exact hk
  refine ⟨b, o, l[k]'hl, e, hb, List.getElem?_eq_getElem hl, hc k _ ?_⟩
  simp [byt, hl]
theorem Rd.addr {w : World} {B size n : Nat} {A : Option Addr} {xs : List Value} (h : Rd w B size A n xs) (hn : 0 < n) : ∃ b o, A = some ⟨b, o, none⟩ ∧ b < B := by
  obtain ⟨b, o, e, hb, _⟩ := h.at_ hn
  exact ⟨b, o, e, hb⟩
theorem Rd.byt_ {w : World} {B n b o : Nat} {l : List Int} (h : RdB w B (some ⟨b, o, none⟩) n l) {k : Nat} (hk : k < n) :
    ∃ x, l[k]? = some x ∧ w.cell? ⟨b, o + k, none⟩ = some (.int .u8 x) := by
  obtain ⟨_, _, x, e, _, hx, hc⟩ := h.bytAt hk
  cases e
  exact ⟨x, hx, hc⟩
theorem Rd.of_own_cap {w : World} {base size n : Nat} {xs : List Value} {e : TypeId} {v : Value} (h : w.ownsRow base e size v n xs) : ∃ A c, v = .slice A n c ∧ n ≤ c ∧ Rd w w.heap.size size A n xs := by
  obtain ⟨A, c, rfl, hr⟩ := Rd.of_own h
  refine ⟨A, c, rfl, ?_, hr⟩
  rcases h.2 with ⟨h0, h1⟩ | ⟨g, cap, cur, h0, hb, hg, hnc, _⟩
  · omega
  · injection h0 with _ _ h0; omega

section
variable {P : Program} {w : World} {B size n c : Nat} {A : Option Addr} {xs : List Value}
theorem Rd.drop_ (hr : Rd w B size A n xs) (k m : Nat) (hk : k ≤ n) (hm : m = n - k) : ∀ j u, (xs.drop (k * size))[j]? = some u → xs[k * size + j]? = some u := by
  intro j u h; rw [List.getElem?_drop] at h; exact h
/-- 's[k:]' of a slice that is read. -/
theorem cut_l (T : TypeId) (hT : P.underlying T = some (.slice (P.elem T))) (hs : ∀ W : World, (sizeOf (P.elem T)).run P W = .ok size W) (hr : Rd w B size A n xs) (hnc : n ≤ c) (k : Nat) (z : Int) (hz : z = k) (hk : k ≤ n) :
    ∃ A', (∀ W : World, (Instr.sliceAt T (.slice A n c) (some (.int .i64 z)) none none).run P W = .ok (.slice A' (n - k) (c - k)) W) ∧ Rd w B size A' (n - k) (xs.drop (k * size)) := by
  subst hz
  refine ⟨if c = k then A else A.map (·.add (k * size)), fun W => ?_, ?_, ?_, ?_⟩
  · rw [run_sliceAt_slice W T _ _ _ _ hT, run_slice_l W T A n c hT .i64 k (by omega) (by omega), hs]
    simp [Result.andThen, sliced]
  · rw [List.length_drop, hr.len, Nat.sub_mul]
  · have := hr.le; omega
  · intro hn
    obtain ⟨b, o, rfl, hb, hc⟩ := hr.at_ (by omega)
    rw [if_neg (by omega)]
    by_cases h0 : k * size = 0
    · refine ⟨b, o, by simp [Addr.add, h0], hb, fun j u hu => hc j u ?_⟩
      rw [List.getElem?_drop, h0] at hu
      simpa using hu
    · refine ⟨b, o + k * size, by simp [Addr.add, h0], hb, fun j u hu => ?_⟩
      rw [List.getElem?_drop] at hu
      have := hc _ u hu
      rw [Nat.add_assoc]; exact this
/-- 's[l:h]' of a slice that is read. -/
theorem cut_lh (T : TypeId) (hT : P.underlying T = some (.slice (P.elem T))) (hs : ∀ W : World, (sizeOf (P.elem T)).run P W = .ok size W) (hr : Rd w B size A n xs) (hnc : n ≤ c) (l h : Nat) (zl zh : Int) (hzl : zl = l) (hzh : zh = h) (hl : l ≤ h) (hh : h ≤ n) :
    ∃ A', (∀ W : World, (Instr.sliceAt T (.slice A n c) (some (.int .i64 zl)) (some (.int .i64 zh)) none).run P W = .ok (.slice A' (h - l) (c - l)) W) ∧ Rd w B size A' (h - l) ((xs.drop (l * size)).take ((h - l) * size)) := by
  subst hzl; subst hzh
  refine ⟨if c = l then A else A.map (·.add (l * size)), fun W => ?_, ?_, ?_, ?_⟩
  · rw [run_sliceAt_slice W T _ _ _ _ hT, run_slice_lh W T A n c hT .i64 .i64 l h (by omega) (by omega) (by omega), hs]
    simp [Result.andThen, sliced]
  · rw [List.length_take, List.length_drop, hr.len, ← Nat.sub_mul]
    exact Nat.min_eq_left (Nat.mul_le_mul_right _ (by omega))
  · have := hr.le; omega
  · intro hn
    obtain ⟨b, o, rfl, hb, hc⟩ := hr.at_ (by omega)
    rw [if_neg (by omega)]
    have tk : ∀ j u, ((xs.drop (l * size)).take ((h - l) * size))[j]? = some u → xs[l * size + j]? = some u := fun j u hu => by
      rw [List.getElem?_take] at hu
      split at hu
      · rw [List.getElem?_drop] at hu; exact hu
      · cases hu
    by_cases h0 : l * size = 0
    · refine ⟨b, o, by simp [Addr.add, h0], hb, fun j u hu => hc j u ?_⟩
      have := tk j u hu
      rw [h0] at this
      simpa using this
    · refine ⟨b, o + l * size, by simp [Addr.add, h0], hb, fun j u hu => ?_⟩
      have := hc _ u (tk j u hu)
      rw [Nat.add_assoc]; exact this
/-- 's[:h]' of a slice that is read. -/
theorem cut_h (T : TypeId) (hT : P.underlying T = some (.slice (P.elem T))) (hs : ∀ W : World, (sizeOf (P.elem T)).run P W = .ok size W) (hr : Rd w B size A n xs) (hnc : n ≤ c) (h : Nat) (zh : Int) (hzh : zh = h) (hh : h ≤ n) :
    ∃ A', (∀ W : World, (Instr.sliceAt T (.slice A n c) none (some (.int .i64 zh)) none).run P W = .ok (.slice A' h c) W) ∧ Rd w B size A' h (xs.take (h * size)) := by
  subst hzh
  refine ⟨A, fun W => ?_, ?_, ?_, ?_⟩
  · rw [run_sliceAt_slice W T _ _ _ _ hT, run_slice_h W T A n c hT .i64 h (by omega) (by omega), hs]
    by_cases hc : c = 0
    · simp [Result.andThen, sliced, hc]
    · simp [Result.andThen, sliced, hc, Addr.add]
  · rw [List.length_take, hr.len]
    exact Nat.min_eq_left (Nat.mul_le_mul_right _ hh)
  · have := hr.le; omega
  · intro hn
    obtain ⟨b, o, rfl, hb, hc⟩ := hr.at_ (by omega)
    refine ⟨b, o, rfl, hb, fun j u hu => hc j u ?_⟩
    rw [List.getElem?_take] at hu
    split at hu
    · exact hu
    · cases hu
end
theorem byt_drop (l : List Int) (k : Nat) : (byt l).drop k = byt (l.drop k) := by simp [byt]
theorem byt_take (l : List Int) (k : Nat) : (byt l).take k = byt (l.take k) := by simp [byt]
/-- 'string(b)' of bytes that are read. -/
theorem conv_str {P : Program} {w : World} {B n c : Nat} {A : Option Addr} {l : List Int} (T S e : TypeId) (hT : P.underlying T = some (.slice e)) (he : P.underlying e = some (.int .u8)) (hS : P.underlying S = some .string) (hr : RdB w B A n l) :
    (convert T S (.slice A n c)).run P w = .ok (.string (strOfNums l)) w := by
  rcases Nat.eq_zero_or_pos n with h0 | h0
  · subst h0
    have hl : l = [] := List.eq_nil_of_length_eq_zero hr.bytLen
    subst hl
    cases A with
    | none => exact run_convert_bytes_nil w T e hT he 0 c S hS
    | some a =>
      rw [run_convert_bytes_string w T S e _ _ _ hT he hS]
      have h := run_bytesToString (P := P) w a 0 c [] (by simpa using run_loadCells_list (P := P) w a [] (fun j v hj => by simp at hj))
      rw [h]; rfl
  · obtain ⟨b, o, rfl, hb⟩ := hr.addr h0
    refine run_convert_bytes_arg w T e hT he b o n c l hr.bytLen (fun i hi => ?_) S hS
    obtain ⟨x, hx, hc⟩ := hr.byt_ hi
    rw [List.getD_eq_getElem?_getD, hx]; exact hc
/-- The numbers are bytes. -/
def Byts (l : List Int) : Prop := ∀ x ∈ l, 0 ≤ x ∧ x ≤ 255
end Go.Proofs.Ytddaeaimimdonaa

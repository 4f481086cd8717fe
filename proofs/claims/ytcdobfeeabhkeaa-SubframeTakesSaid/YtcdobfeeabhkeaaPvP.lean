/- Appending. -/
import Derived.Test.YtcdobfeeabhkeaaPvO
set_option autoImplicit false
set_option linter.unusedVariables false
set_option linter.unusedSimpArgs false
namespace Go.Pv

section
variable {E : Env} {Z : Nat → Prop} {B : Nat → Option Nat} {st st' : St} {tm : Array Value} {w : World}

theorem isStrTy_some {P : Program} {t : TypeId} (h : isStrTy P t = true) : P.underlying t = some .string := by
  unfold isStrTy at h; split at h
  · assumption
  · cases h
theorem isSlTy_some {P : Program} {t : TypeId} (h : isSlTy P t = true) : ∃ e, P.underlying t = some (.slice e) := by
  unfold isSlTy at h; split at h
  · rename_i e hu; exact ⟨e, hu⟩
  · cases h

theorem run_append_room' {t tx ty e : TypeId} {i : TypeInfo} (ht : E.P.underlying t = some (.slice e)) (hi : E.P.info? e = some i) {b sLen sCap : Nat} {x : Value} {n : Nat} {news : List Value} (hs : Src E.P i.size tx x n news w)
    (hroom : sLen + n ≤ sCap) {arr : Array Value} {e' : TypeId} (hh : w.heap[b]? = some (.cells arr e' (0, 0))) (hfit : sCap * i.size ≤ arr.size) :
    (Builtin.append_ #[t, tx] ty #[.slice (some ⟨b, 0, none⟩) sLen sCap, x]).run E.P w =
      .ok (.slice (some ⟨b, 0, none⟩) (sLen + n) sCap) (w.setRow b (arr.toList.take (sLen * i.size) ++ news ++ arr.toList.drop (sLen * i.size + news.length)).toArray) := by
  have hl : sLen * i.size + news.length ≤ arr.size := by
    rw [hs.newsLen, ← Nat.add_mul]
    exact Nat.le_trans (Nat.mul_le_mul_right _ hroom) hfit
  have hst := run_storeCells_at E.P b (sLen * i.size) e' news 0 arr w hh (by simpa using hl) hs.one
  simp only [Nat.add_zero] at hst
  rcases hs.kind with ⟨e', hk⟩ | hk <;> simp [Builtin.append_, run_underlying ht, run_underlying hk, sizeOf, typeInfo, hi, hs.len, hroom, hs.cells, Addr.add_lit, hst]

theorem run_append_none {t tx ty e : TypeId} {i : TypeInfo} (ht : E.P.underlying t = some (.slice e)) (hi : E.P.info? e = some i) {a : Option Addr} {x : Value} (hs : Src E.P i.size tx x 0 [] w) :
    (Builtin.append_ #[t, tx] ty #[.slice a 0 0, x]).run E.P w = .ok (.slice a 0 0) w := by
  cases a with
  | none => rcases hs.kind with ⟨e', hk⟩ | hk <;> simp [Builtin.append_, run_underlying ht, run_underlying hk, sizeOf, typeInfo, hi, hs.len, hs.cells]
  | some a => rcases hs.kind with ⟨e', hk⟩ | hk <;> simp [Builtin.append_, run_underlying ht, run_underlying hk, sizeOf, typeInfo, hi, hs.len, hs.cells, storeCells]

theorem zeroCells_size (z : Array Value) (n : Nat) : (Builtin.zeroCells z n).size = n * z.size := by unfold Builtin.zeroCells; simp

theorem append_core {X : List Nat} (r : Rel (ZX Z X) B st tm w) (hn : X.Nodup) (hz : ∀ b ∈ X, ¬ Z b) (hZ : ∀ b, Z b → b < w.heap.size) {u : Ty} {l1 l2 : List (El u)} {v1 : Value} (hv : OV1 w (Owned (ZX Z X) B st) (.own u l1) [v1] X)
    {t tx ty e : TypeId} {i : TypeInfo} (ht : E.P.underlying t = some (.slice e)) (hi : E.P.info? e = some i) (hsz : i.size = u.size) (hz0 : zeroOk E.P e u = true) (hby : i.bytes ≤ 64)
    {x : Value} {news : List Value} (hs : Src E.P u.size tx x l2.length news w) (hrow : Row (Cells w (Owned (ZX Z X) B st) u) l2 news) (hrm : l1.length + l2.length ≤ 1099511627776) :
    ∃ v w' X', (Builtin.append_ #[t, tx] ty #[v1, x]).run E.P w = .ok v w' ∧ Tr (· ∈ X) w w' ∧ X'.Nodup ∧ (∀ b ∈ X', ¬ Z b) ∧ (∀ b ∈ X', b ∈ X ∨ w.heap.size ≤ b) ∧
      OV1 w' (Owned (ZX Z X') B st) (.own u (l1 ++ l2)) [v] X' := by
  obtain ⟨v0, bo, hv0, ⟨a, c, rfl, hc, hh⟩, hb, rfl⟩ := hv
  cases hv0
  obtain ⟨i', z, hi', hzz, hzc, hnf⟩ := zeroOk_some hz0
  rw [hi] at hi'; cases hi'
  have hzs : z.cells.size = u.size := by
    have : z.cells.toList.length = z.cells.size := rfl
    rw [← this, hzc]; exact (zero_cells (w := w) (O := fun _ => False) hnf).len
  rw [← hsz] at hs
  -- what the list's cells are
  have hold : ∃ olds rest, Row (Cells w (Owned (ZX Z bo.toList) B st) u) l1 olds ∧ olds.length = l1.length * i.size ∧ (∀ j v, olds[j]? = some v → ∃ b, bo = some b ∧ w.cell? ⟨b, j, none⟩ = some v) ∧
      (∀ b, bo = some b → ∃ arr e, w.heap[b]? = some (.cells arr e (0, 0)) ∧ arr.toList = olds ++ rest) := by
    rcases hb with ⟨h1, h2⟩ | ⟨b, arr, e', cs, rest, h1, h2, h3, h4⟩
    · subst h2
      exact ⟨[], [], rfl, by simp, fun j v h => by (cases h), fun b h => by rw [h1] at h; cases h⟩
    · refine ⟨cs, rest, h4, by rw [h4.len fun _ _ h => h.len, hsz], fun j v h => ⟨b, h1, ?_⟩, fun b' h => ?_⟩
      · have := Lies.of_heap (c1 := []) (d := cs) (c2 := rest) h2 (by simpa using h3) j v h
        simpa using this
      · rw [h1] at h; cases h; exact ⟨arr, e', h2, h3⟩
  obtain ⟨olds, rest, ho1, ho2, ho3, ho4⟩ := hold
  by_cases hroom : l1.length + l2.length ≤ c
  · rcases hh with ⟨h0, hc0⟩ | ⟨b, arr, e', hbo, ha, hheap, hfit⟩
    · have h2 : l2 = [] := List.length_eq_zero_iff.1 (by omega)
      have h1 : l1 = [] := List.length_eq_zero_iff.1 h0
      subst h2; subst h1; subst hc0
      cases hrow
      exact ⟨_, w, bo.toList, run_append_none ht hi hs, Tr.refl _ _, hn, hz, fun b hb => .inl hb, ⟨_, bo, rfl, ⟨a, 0, rfl, Nat.le_refl _, .inl ⟨rfl, rfl⟩⟩, hb, rfl⟩⟩
    · subst hbo; subst ha
      rw [Nat.zero_add] at hfit
      obtain ⟨arr', e'', hh', harr⟩ := ho4 b rfl
      rw [hheap] at hh'; cases hh'
      have hrun := run_append_room' (ty := ty) ht hi hs hroom hheap (by rw [hsz]; exact hfit)
      rw [show (0 : Nat) * u.size = 0 from Nat.zero_mul _]
      have hnl := hs.newsLen
      have hal : arr.toList.length = arr.size := rfl
      have hle : l1.length * i.size + news.length ≤ arr.size := by
        rw [hnl, ← Nat.add_mul, hsz]
        exact Nat.le_trans (Nat.mul_le_mul_right _ hroom) hfit
      have hsize : (arr.toList.take (l1.length * i.size) ++ news ++ arr.toList.drop (l1.length * i.size + news.length)).toArray.size = arr.size := by
        simp only [List.size_toArray, List.length_append, List.length_take, List.length_drop, hal]; omega
      have htr := Tr.setRow (w := w) hheap hsize
      have htr' : Tr (· ∈ [b]) w (w.setRow b (arr.toList.take (l1.length * i.size) ++ news ++ arr.toList.drop (l1.length * i.size + news.length)).toArray) := htr.imp fun x hx => by simp [hx]
      obtain ⟨_, s⟩ := r.passed (Y := [b]) htr' fun x hx => .inl hx
      refine ⟨_, _, [b], hrun, htr', hn, hz, fun x hx => .inl hx, ⟨_, some b, rfl, ⟨_, c, by rw [List.length_append], by rw [List.length_append]; exact hroom, .inr ⟨b, _, e', rfl, by simp, setRow_heap w b arr _ e' (0, 0) hheap, ?_⟩⟩, .inr ⟨b, _, e', _, _, rfl, setRow_heap w b arr _ e' (0, 0) hheap, rfl, ?_⟩, rfl⟩⟩
      · rw [hsize, Nat.zero_add]; exact hfit
      · have htake : arr.toList.take (l1.length * i.size) = olds := by rw [harr, ← ho2]; simp
        rw [htake]
        have e1 : Row (Cells (w.setRow b (olds ++ news ++ arr.toList.drop (l1.length * i.size + news.length)).toArray) (Owned (ZX Z [b]) B st) u) (l1 ++ l2) (olds ++ news) := by
          rw [htake] at s
          exact Row.append (ho1.mono fun _ _ h => h.mono s.size s.same s.sub) (hrow.mono fun _ _ h => h.mono s.size s.same s.sub)
        exact e1
  · have hg : c < l1.length + l2.length := by omega
    have hnc : Builtin.nextslicecap (l1.length + l2.length) c * i.bytes ≤ 281474976710656 := by
      have h1 := nextslicecap_le hg
      calc Builtin.nextslicecap (l1.length + l2.length) c * i.bytes ≤ (2 * 1099511627776) * 64 := Nat.mul_le_mul (by omega) hby
        _ ≤ 281474976710656 := by decide
    have hf : (Builtin.firstCells i.size l1.length (.slice a l1.length c)).run E.P w.drew = .ok olds.toArray w.drew := by
      cases a with
      | none =>
        have : l1.length = 0 := by
          rcases hh with h | ⟨b, arr, e', _, h, _⟩
          · exact h.1
          · cases h
        have : olds = [] := List.length_eq_zero_iff.1 (by rw [ho2, this, Nat.zero_mul])
        rw [this]; exact run_firstCells_none w.drew _ _ _ _
      | some a =>
        refine run_firstCells_some w.drew _ _ a _ _ olds ho2 fun j v hj => ?_
        obtain ⟨b, hb1, hb2⟩ := ho3 j v hj
        rcases hh with h | ⟨b', arr, e', hb3, ha, _⟩
        · have : olds = [] := List.length_eq_zero_iff.1 (by rw [ho2, h.1, Nat.zero_mul])
          rw [this] at hj; cases hj
        · rw [hb1] at hb3; cases hb3; cases ha
          rw [Nat.zero_mul, Addr.add_lit, Nat.zero_add]
          exact hb2
    have hrun := run_append_grow_src w t tx ty e i z ht hi hzz a l1.length c olds hf x l2.length news hs hg (by omega) hnc
    have hcap := grownCap_ge w (l1.length + l2.length) c e
    generalize hG : grownCap w (l1.length + l2.length) c e = G at hrun hcap
    generalize hA : (olds ++ news).toArray ++ Builtin.zeroCells z.cells (G - (l1.length + l2.length)) = A at hrun
    have hp : ((w.drew).alloc (.cells A e)).heap = w.heap.push (.cells A e) := rfl
    have htr := Tr.push hp
    have htr' : Tr (· ∈ bo.toList) w ((w.drew).alloc (.cells A e)) := htr.imp fun _ h => h.elim
    obtain ⟨_, s⟩ := r.passed (Y := [w.heap.size]) htr' fun x hx => .inr (by simp at hx; omega)
    refine ⟨_, _, [w.heap.size], hrun, htr', by simp, by simpa using fun h => Nat.lt_irrefl _ (hZ _ h), fun x hx => .inr (by simp at hx; omega),
      ⟨_, some w.heap.size, rfl, ⟨_, G, by rw [List.length_append], by rw [List.length_append]; exact hcap, .inr ⟨_, A, e, rfl, by simp, get_push hp, ?_⟩⟩, .inr ⟨_, A, e, olds ++ news, (Builtin.zeroCells z.cells (G - (l1.length + l2.length))).toList, rfl, get_push hp, by rw [← hA]; simp, ?_⟩, rfl⟩⟩
    · rw [← hA, Array.size_append, zeroCells_size, hzs, List.size_toArray, List.length_append, ho2, hs.newsLen, ← hsz, ← Nat.add_mul, ← Nat.add_mul, Nat.zero_add]
      exact Nat.mul_le_mul_right _ (by omega)
    · exact Row.append (ho1.mono fun _ _ h => h.mono s.size s.same s.sub) (hrow.mono fun _ _ h => h.mono s.size s.same s.sub)

theorem strList_row {O : Nat → Prop} (s : ByteArray) : Row (Cells w O (.int .u8)) (strList s) (byteCells s) := by
  unfold strList byteCells
  generalize s.data.toList = l
  induction l with
  | nil => rfl
  | cons b l ih => exact ⟨[_], _, rfl, rfl, ih⟩

theorem sourceP_sound (r : Rel Z B st tm w) {u : Ty} {v : AV} {l : List (El u)} {val : Value} (hv : VR w (Owned Z B st) B st v val) (e : run (sourceP u v) st = some (l, st')) {tx : TypeId} (hk : (∃ e', E.P.underlying tx = some (.slice e')) ∨ E.P.underlying tx = some .string) :
    Rel Z B st' tm w ∧ Stay w w (Owned Z B st) (Owned Z B st') B B st st' ∧ (∃ news, Src E.P u.size tx val l.length news w ∧ Row (Cells w (Owned Z B st') u) l news) ∧ ∀ k, live (st'.cont k) = true → live (st.cont k) = true := by
  have key : run (do let l ← listAt u v; match u.flat with | true => pure l | false => do freeze v; pure l : Pr (List (El u))) st = some (l, st') →
      Rel Z B st' tm w ∧ Stay w w (Owned Z B st) (Owned Z B st') B B st st' ∧ (∃ news, Src E.P u.size tx val l.length news w ∧ Row (Cells w (Owned Z B st') u) l news) ∧ ∀ k, live (st'.cont k) = true → live (st.cont k) = true := fun e => by
    obtain ⟨l', st1, h1, h2⟩ := run_some e
    obtain ⟨rfl, a, c, rfl, hc, hr⟩ := listAt_sound r hv h1
    have hsrc : ∃ news, Src E.P u.size tx (.slice a l'.length c) l'.length news w ∧ Row (Cells w (Owned Z B st1) u) l' news := by
      rcases hr with rfl | ⟨b, off, ds, rfl, hb, hl, hrow⟩
      · refine ⟨[], ⟨hk, fun _ => rfl, ?_, ?_, by simp, fun _ h => by (cases h)⟩, rfl⟩
        · cases a with
          | none => exact run_firstCells_none w _ _ _ _
          | some a => exact run_firstCells_some w _ _ a _ _ [] (by simp) fun j v h => by (cases h)
        · cases a with
          | none => exact run_firstCells_none w.drew _ _ _ _
          | some a => exact run_firstCells_some w.drew _ _ a _ _ [] (by simp) fun j v h => by (cases h)
      · have hlen : ds.length = l'.length * u.size := hrow.len fun _ _ h => h.len
        refine ⟨ds, ⟨hk, fun _ => rfl, run_firstCells_some w _ _ _ _ _ ds hlen fun j v h => ?_, run_firstCells_some w.drew _ _ _ _ _ ds hlen fun j v h => ?_, hlen, hrow.all fun _ _ h => h.one⟩, hrow⟩
        · rw [Addr.add_lit]; exact hl j v h
        · rw [Addr.add_lit]; exact hl j v h
    cases hf : u.flat with
    | true =>
      rw [hf] at h2
      obtain ⟨rfl, rfl⟩ := run_pure h2
      exact ⟨r, Stay.refl, hsrc, fun _ h => h⟩
    | false =>
      rw [hf] at h2
      obtain ⟨_, st2, h3, h4⟩ := run_some h2
      obtain ⟨rfl, rfl⟩ := run_pure h4
      obtain ⟨rf, sf, _⟩ := freeze_sound r h3
      obtain ⟨news, n1, n2⟩ := hsrc
      exact ⟨rf, sf, ⟨news, n1, n2.mono fun _ _ h => h.mono sf.size sf.same sf.sub⟩, (freeze_live h3).1⟩
  cases v with
  | val t x =>
    cases t with
    | str =>
      obtain ⟨hc, rfl⟩ := run_lift e
      obtain ⟨e1, e2⟩ := castEl_some hc
      cases e1
      cases hv.str
      subst e2
      have hl : (strList x).length = x.size := by unfold strList; simp
      refine ⟨r, Stay.refl, ⟨byteCells x, ⟨hk, fun w' => ?_, ?_, ?_, ?_, ?_⟩, strList_row x⟩, fun _ h => h⟩
      · exact (congrArg (fun n => Result.ok n w') hl.symm)
      · rw [hl]; exact firstCells_string x _
      · rw [hl]; exact firstCells_string x _
      · rw [hl, byteCells_length]; exact (Nat.mul_one _).symm
      · intro v hv; obtain ⟨_, _, rfl⟩ := List.mem_map.1 hv; rfl
    | _ => exact key e
  | _ => exact key e

theorem takeOver_sound {X : List Nat} (r : Rel (ZX Z X) B st tm w) (hn : X.Nodup) (hz : ∀ b ∈ X, ¬ Z b) {u : Ty} {v : AV} {l : List (El u)} {val : Value} (hv : VR w (Owned (ZX Z X) B st) B st v val) (e : run (takeOver u v) st = some (l, st')) :
    ∃ X1, Rel (ZX Z (X1 ++ X)) B st' tm w ∧ Stay w w (Owned (ZX Z X) B st) (Owned (ZX Z (X1 ++ X)) B st') B B st st' ∧ OV1 w (Owned (ZX Z (X1 ++ X)) B st') (.own u l) [val] X1 ∧ (X1 ++ X).Nodup ∧ (∀ b ∈ X1 ++ X, ¬ Z b) ∧ ∀ b ∈ X1, L B st b := by
  cases v with
  | nils =>
    obtain ⟨rfl, rfl⟩ := run_ret e
    cases hv
    exact ⟨[], r, Stay.refl, own_nil, hn, hz, fun _ h => by (cases h)⟩
  | lref h g s =>
    cases s with
    | some _ => cases e
    | none =>
      obtain ⟨c, st1, h1, h2⟩ := run_some e
      obtain ⟨rfl, rfl, rfl⟩ := run_home h1
      cases hcc : st1.cont h with
      | own t l0 =>
        rw [hcc] at h2
        obtain ⟨l', st2, h3, h4⟩ := run_some h2
        obtain ⟨hc, rfl⟩ := run_lift h3
        obtain ⟨e1, e2⟩ := castEl_some hc
        cases e1
        subst e2
        simp only [run, Option.some.injEq, Prod.mk.injEq] at h4
        obtain ⟨rfl, rfl⟩ := h4
        obtain ⟨X1, ra, sa, oa, na, za, ba⟩ := r.detachOwn hz hn h (st2.gen h + 2) (.inr (Nat.le_refl _)) hcc hv
        exact ⟨X1, ra, sa, oa, na, za, fun b hb => ⟨h, by rw [hcc]; rfl, ba b hb⟩⟩
      | _ => rw [hcc] at h2; cases h2
  | _ => cases e

theorem appendP_sound (r : Rel Z B st tm w) (hZ : ∀ b, Z b → b < w.heap.size) {d : Nat} {ts : Array TypeId} {ty : TypeId} {s x v : AV} {vs vx : Value} (hs : VR w (Owned Z B st) B st s vs) (hx : VR w (Owned Z B st) B st x vx)
    (e : run (appendP E d ts s x) st = some (v, st')) :
    ∃ val B' w', (Builtin.append_ ts ty #[vs, vx]).run E.P w = .ok val w' ∧ Rel Z B' st' tm w' ∧ Stay w w' (Owned Z B st) (Owned Z B' st') B B' st st' ∧ Tr (L B st) w w' ∧ VR w' (Owned Z B' st') B' st' v val := by
  unfold appendP at e
  split at e
  · rename_i t tx hts
    have hts : ts = #[t, tx] := by
      apply Array.ext'; simpa using hts
    subst hts
    split at e
    · rename_i ety hu
      obtain ⟨u, st1, h1, ea⟩ := run_some e
      obtain ⟨hty, rfl⟩ := run_lift h1
      obtain ⟨_, st2, h2, eb⟩ := run_some ea
      obtain ⟨hg, rfl⟩ := run_guard h2
      simp only [Bool.and_eq_true, Bool.or_eq_true] at hg
      obtain ⟨⟨hu0, hz0⟩, hk⟩ := hg
      have hk : (∃ e', E.P.underlying tx = some (.slice e')) ∨ E.P.underlying tx = some .string := hk.elim (fun h => .inr (isStrTy_some h)) fun h => .inl (isSlTy_some h)
      obtain ⟨i, st3, h3, ec⟩ := run_some eb
      obtain ⟨hi, rfl⟩ := run_lift h3
      obtain ⟨_, i', hi', hsz⟩ := tyOf_some hty
      rw [hi] at hi'; cases hi'
      obtain ⟨_, st4, h4, ed⟩ := run_some ec
      obtain ⟨hby, rfl⟩ := run_guard h4
      have hby : i.bytes ≤ 64 := Nat.le_of_ble_eq_true hby
      obtain ⟨l2, st5, h5, ee⟩ := run_some ed
      obtain ⟨r5, s5, ⟨news, n1, n2⟩, lv⟩ := sourceP_sound r hx h5 hk
      obtain ⟨l1, st6, h6, ef⟩ := run_some ee
      obtain ⟨X, r6, s6, o6, n6, z6, b6⟩ := takeOver_sound r5.nil List.nodup_nil (by simp) (by rw [Owned.nil]; exact hs.mono s5) h6
      rw [Owned.nil] at s6
      rw [List.append_nil] at r6 s6 o6 n6 z6
      obtain ⟨_, st7, h7, eg⟩ := run_some ef
      obtain ⟨hrm, rfl⟩ := run_ask h7
      have hrm : l1.length + l2.length ≤ 1099511627776 := by
        unfold room at hrm; split at hrm
        · assumption
        · cases hrm
      obtain ⟨val, w', X', hrun, htr, hn', hz', hb', hov⟩ := append_core (ty := ty) r6 n6 z6 hZ o6 hu hi hsz hz0 hby n1 (n2.mono fun _ _ h => h.mono s6.size s6.same s6.sub) hrm
      obtain ⟨r7, s7⟩ := r6.passed (Y := X') htr hb'
      obtain ⟨B', r8, s8, v8⟩ := newOwn_sound r7 hn' hz' hov eg
      refine ⟨val, B', w', hrun, r8, ((s5.trans s6).trans s7).trans s8, htr.imp fun b hb => ?_, v8⟩
      obtain ⟨h, h1, h2⟩ := b6 b hb
      exact ⟨h, lv h h1, h2⟩
    · cases e
  · cases e
end
end Go.Pv

/- A law's last step: what it answered, and that all reads as it did. -/
import Derived.Test.YtcdobfeeabhkeaaPvX
import Derived.ChangeSame
import Derived.WideKeyArgs
set_option autoImplicit false
set_option linter.unusedVariables false
namespace Go.Pv
open Go.RowKit Go.WideShapes Go.ChangeShapes
section
variable {H : Type} {enc : TypeId × Value → H} {P : Program}

/-- the row's last step where nothing that was there has turned -/
theorem post_below {f : Func} {s : ChangeSpec} {apart fresh handsOn again : Bool} {W W' : World} {args : Array Value} {v : Value} {ds gs : List (DataW H)} {before pa pv : List MemPlace}
    (hW : DataW.Whole enc P f.params.toList s.vars apart W args.toList ds gs before)
    (hres : ∀ (b : Nat) (sp : Nat → Bool) (hd : Bool), DataW.TrodAll enc P W' b sp hd f.resultTypes.toList (v.resultList f.resultTypes.size) (s.fn H (ds ++ gs)).results [])
    (hargs : ∀ sp : Nat → Bool, (∀ p ∈ before, sp p.block = true) → DataW.TrodAll enc P W' 0 sp true f.params.toList args.toList (s.fn H (ds ++ gs)).args pa)
    (hvars : ∀ sp : Nat → Bool, (∀ p ∈ before, sp p.block = true) → DataW.TrodVars enc P W' sp s.vars (s.fn H (ds ++ gs)).vars pv)
    (hps : before = pa ++ pv) (hb : Below W.heap.size W W')
    (hok : ∀ (j : Nat) (t : TypeId) (r : Value), f.resultTypes[j]? = some t → (v.resultList f.resultTypes.size)[j]? = some r → Value.okWide P W' .any 0 t r) :
    s.post enc P f apart fresh handsOn again W args v W' := by
  have hlt : ∀ p ∈ before, p.block < W.heap.size := fun p hp => hW.lt p hp
  have hold : ∀ p ∈ before, (fun b => decide (b < W.heap.size)) p.block = true := fun p hp => by simpa using hlt p hp
  refine ⟨ds, gs, before, [], pa, pv, hW, hres _ _ _, hargs _ hold, hvars _ hold, World.keptBut_mono (fun p hp => ⟨hp, ?_⟩) (hb.frame (· ∈ before)), fun _ => ?_⟩
  · rw [hps, List.mem_append] at hp
    exact Or.inr hp
  · obtain ⟨_, _, _, _, _, hz, hn⟩ := hW
    refine ⟨hok, _, _, ([] ++ pa) ++ pv, ⟨[] ++ pa, pv, trodAll_append (hargs _ (fun _ _ => rfl)) (hres _ _ _), hvars _ (fun _ _ => rfl), rfl, ?_, ?_⟩, ?_⟩
    · intro b off hp
      have hin : MemPlace.cell b off ∈ before := by rw [hps]; simpa using hp
      rw [hb.frozen (hlt _ hin)]
      exact hz b off hin
    · intro ha
      have := hn ha
      rw [hps] at this
      simpa using this
    · intro p hp _
      rw [hps]
      simpa using hp

/-- arguments that read as they did -/
theorem trodAll_stays (hl : laidOutB P = true) {W W' : World} {sp' : Nat → Bool} : ∀ {ts : List TypeId} {vs : List Value} {ds : List (DataW H)} {ps : List MemPlace}, (ts.all fun t => P.readableRec t && decide (t < P.types.size)) = true →
    DataW.TrodAll enc P W 0 (fun _ => true) true ts vs ds ps → (∀ p ∈ ps, W.sameAt W' p) → (∀ p ∈ ps, sp' p.block = true) → DataW.TrodAll enc P W' 0 sp' true ts vs ds ps
  | [], [], [], ps, _, h, _, _ => h
  | t :: ts, v :: vs, d :: ds, _, hr, ⟨p, q, h1, h2, rfl⟩, hs, hp => by
    simp only [List.all_cons, Bool.and_eq_true, decide_eq_true_eq] at hr
    exact ⟨p, q, WideElems.Trod_stays hl hr.1.1 hr.1.2 h1 (fun x hx => hs x (List.mem_append_left _ hx)) (fun x hx => hp x (List.mem_append_left _ hx)),
      trodAll_stays hl hr.2 h2 (fun x hx => hs x (List.mem_append_right _ hx)) (fun x hx => hp x (List.mem_append_right _ hx)), rfl⟩
  | [], [], _ :: _, _, _, h, _, _ => h.elim
  | [], _ :: _, ds, _, _, h, _, _ => by cases ds <;> exact h.elim
  | _ :: _, [], ds, _, _, h, _, _ => by cases ds <;> exact h.elim
  | _ :: _, _ :: _, [], _, _, h, _, _ => h.elim

/-- a law that answers true at all that may come in: its row's words -/
theorem law_post {f : FuncId} {fn : Func} {s : ChangeSpec} {t : TypeId} {tys : List Ty} {g : Tu tys → Option (ROut [⟨.val .bool, [], [.bool]⟩])} (hl : laidOutB P = true) (hu : P.underlying t = some .bool) (hres : fn.resultTypes = #[t])
    (hvars : s.vars = []) (hfn : ∀ ds : List (DataW H), ds.length = tys.length → s.fn H ds = { results := [.lit (.bool true)], args := ds })
    (hp : (fn.params.toList.all fun t => P.readableRec t && decide (t < P.types.size)) = true) (ha : argsOk P fn.params.toList tys = true)
    (hk : Known P f (Sig.sp ⟨tys.map .val, tys, [⟨.val .bool, [], [.bool]⟩]⟩ g)) {Pre : Tu tys → Prop} (hg : ∀ x : Tu tys, wfAll tys x → Pre x → g x = some true)
    {W : World} {base : Nat} {args : Array Value} {ds gs : List (DataW H)} {before : List MemPlace}
    (hval : ∀ (j : Nat) t v, fn.params[j]? = some t → args[j]? = some v → Value.okWide P W .any base t v)
    (hW : DataW.Whole enc P fn.params.toList s.vars false W args.toList ds gs before)
    (hpre : ∀ x : Tu tys, (∀ O : Nat → Prop, (∀ b, ¬ O b) → OVl W O (avs (ofTu tys x)) args.toList []) → Pre x) :
    Calls P f args W fun e W' => ∃ v, e = .returned v ∧ s.post enc P fn false true false false W args v W' := by
  have hW' := hW
  obtain ⟨p, q, hA, hV, rfl, hfz, hnd⟩ := hW
  rw [hvars] at hV
  obtain ⟨x, hx, hov⟩ := read_all ha hA (fun j t v h1 h2 => hval j t v (by simpa using h1) (by simpa using h2))
  refine (law_calls (w := W) hk (hg x hx (hpre x hov)) hov).mono ?_
  rintro e W' ⟨rfl, hb⟩
  refine ⟨_, rfl, ?_⟩
  have hgs : gs = [] ∧ q = [] := by
    cases gs with
    | nil => exact ⟨rfl, hV⟩
    | cons g gs => exact hV.elim
  obtain ⟨rfl, rfl⟩ := hgs
  have hlen : ds.length = tys.length := trod_len hA ha
  have hs := hfn (ds ++ []) (by simpa using hlen)
  have hlt : ∀ p' ∈ p ++ [], p'.block < W.heap.size := fun p' hp' => hW'.lt p' hp'
  refine post_below (pa := p) (pv := []) hW' ?_ ?_ ?_ rfl hb ?_
  · intro b sp hd
    rw [hs, hres]
    exact ⟨[], [], shut_bool hu true, rfl, rfl⟩
  · intro sp hsp
    rw [hs]
    simp only [List.append_nil]
    exact trodAll_stays hl hp hA (fun x hx => hb.same (hlt x (by simpa using hx))) (fun x hx => hsp x (by simpa using hx))
  · intro sp hsp
    rw [hs, hvars]
    rfl
  · exact ok_one hres rfl (okWide_bool_mk hu true)
end
end Go.Pv

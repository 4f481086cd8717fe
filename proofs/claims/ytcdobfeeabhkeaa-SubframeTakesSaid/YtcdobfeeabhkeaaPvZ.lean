/- Clone: a list, made anew; of an empty one it isn't known whether it was nil. -/
import Derived.Test.YtcdobfeeabhkeaaPvY
import Derived.WalkKit
import Derived.WalkSpells
import Derived.WalkLawsBesides
set_option autoImplicit false
set_option linter.unusedVariables false
namespace Go.Pv

def cloneF {α : Type} (l : List α) : Option (List α) := if l.length ≤ 1099511627776 then some l else none

theorem eq_nil {P : Program} {t e : TypeId} (hu : P.underlying t = some (.slice e)) (c : Nat) (w : World) : (binOp .eql t (.slice none 0 c) (.slice none 0 0)).run P w = .ok (.bool true) w := by
  have h : (Op.equal t (.slice none 0 c) (.slice none 0 0)).run P w = .ok true w := by
    unfold Op.equal Op.maxDepth Op.equalIn; simp [run_underlying hu]
  exact run_eql (E := ⟨P, fun _ _ => none, [], 0, false, []⟩) h
theorem eq_some {P : Program} {t e : TypeId} (hu : P.underlying t = some (.slice e)) (a : Addr) (c : Nat) (w : World) : (binOp .eql t (.slice (some a) 0 c) (.slice none 0 0)).run P w = .ok (.bool false) w := by
  have h : (Op.equal t (.slice (some a) 0 c) (.slice none 0 0)).run P w = .ok false w := by
    unfold Op.equal Op.maxDepth Op.equalIn; simp [run_underlying hu]
  exact run_eql (E := ⟨P, fun _ _ => none, [], 0, false, []⟩) h

theorem known_clone {P : Program} {f : FuncId} {u : Ty} {g : List (El u) → Option (List (El u))} (hk : Known P f (Sig.sp ⟨[.val (.slice u)], [.slice u], [⟨.own u, [], [.slice u]⟩]⟩ g))
    (hg : ∀ l : List (El u), l ≠ [] → l.length ≤ 1099511627776 → g l = some l)
    (h1 : ∀ (c : Nat) (w : World), Calls P f #[.slice none 0 c] w fun e w' => (∃ b, e = .returned (.slice b 0 0)) ∧ RowKit.Below w.heap.size w w')
    (h2 : ∀ (a : Addr) (c : Nat) (w : World), Calls P f #[.slice (some a) 0 c] w fun e w' => (∃ b, e = .returned (.slice b 0 0)) ∧ RowKit.Below w.heap.size w w') :
    Known P f (Sig.sp ⟨[.val (.slice u)], [.slice u], [⟨.own u, [], [.slice u]⟩]⟩ (cloneF : List (El u) → Option (List (El u)))) := by
  refine ⟨fun as x hx Z X vs w hn hz hZ hX hov => ?_, hk.code⟩
  obtain ⟨l, hl, hF⟩ := Option.bind_eq_some_iff.1 (show ((takeShs [.val (.slice u)] as).bind (toTu [.slice u])).bind (cloneF : List (El u) → Option (List (El u))) = some x from hx)
  obtain ⟨ls, hls, htu⟩ := Option.bind_eq_some_iff.1 hl
  have hF : (if List.length (α := El u) l ≤ 1099511627776 then some l else none) = some x := hF
  split at hF
  · rename_i hlen
    have hF := Option.some.inj hF
    subst hF
    by_cases hne : (l : List (El u)) = []
    · have has : as = [.val (.slice u) l] := by
        have h1 := fill_takes _ _ ls hls []
        rw [List.append_nil, ← ofTu_toTu htu] at h1
        have h2 : as = (fillShs [Sh.val (.slice u)] (ofTu [Ty.slice u] l)).1 := by rw [h1]
        exact h2
      subst has
      obtain ⟨v, vs', X1, X2, hvs, rfl, ⟨⟨cs, ⟨a, c, rfl, _, _⟩, rfl⟩, rfl⟩, hrest⟩ := hov
      obtain ⟨rfl, rfl⟩ := hrest
      have e0 : vs = #[.slice a 0 c] := by
        apply Array.ext'
        rw [hvs]
        show [Value.slice a (List.length (α := El u) l) c] = _
        rw [hne]; rfl
      subst e0
      have key : ∀ {e : Ending} {w' : World}, ((∃ b, e = .returned (.slice b 0 0)) ∧ RowKit.Below w.heap.size w w') →
          ∃ v X1 X2, e = .returned v ∧ (X1 ++ X2).Nodup ∧ (∀ b ∈ X1 ++ X2, ¬ Z b ∧ (b ∈ ([] : List Nat) ∨ w.heap.size ≤ b)) ∧ OV3 w' (ZX Z (X1 ++ X2)) (.own u l) v X1 ∧ OVl w' (ZX Z (X1 ++ X2)) [] (bv [.val (.slice u) l] [.slice a 0 c]) X2 ∧ Tr (· ∈ ([] : List Nat)) w w' := by
        rintro e w' ⟨⟨b, rfl⟩, hb⟩
        refine ⟨_, [], [], rfl, List.nodup_nil, by simp, ?_, ⟨rfl, rfl⟩, ⟨hb.size, fun k hk _ => hb.block k hk, ⟨hb.os, hb.tape, hb.output⟩, fun k arr e _ h => by cases h⟩⟩
        rw [hne]
        exact own_nil
      cases a with
      | none => exact (h1 c w).mono fun e w' h => key h
      | some a => exact (h2 a c w).mono fun e w' h => key h
    · exact hk.sound as l (show ((takeShs [.val (.slice u)] as).bind (toTu [.slice u])).bind g = some l by rw [hl, Option.bind_some]; exact hg l hne hlen) Z X vs w hn hz hZ hX hov
  · cases hF
end Go.Pv

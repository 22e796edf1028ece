/- Pairs of texts that are the call's own, or are read, in the printed texts' own form. -/
import Derived.Test.YtliaemoomhfcdaaGreatPairsW
namespace Go.Proofs.YtliaemoomhfcdaaGreat
open Go.RowKit Go.Proofs.YtliaemoomhfcdaaGreatW.PrintWords
theorem reps_pairs {β : Type} (f : β → KV) {w : World} {base : Nat} {ok : Nat → Prop} : ∀ xs : List β, Reps ((Kd.iso kp f).M w base ok) 2 xs (flatP (xs.map f))
  | [] => Reps.none _ _
  | x :: t => by
    have ih := reps_pairs f (w := w) (base := base) (ok := ok) t
    refine ⟨by rw [List.map_cons, flatP, List.length_cons, List.length_cons, ih.1, List.length_cons]; omega, fun j p hj => ?_⟩
    cases j with
    | zero =>
      rw [List.getElem?_cons_zero] at hj
      injection hj with hj
      subst hj
      exact ⟨[.string (f x).1], [.string (f x).2], rfl, rfl, rfl⟩
    | succ j =>
      rw [List.getElem?_cons_succ] at hj
      have h := ih.2 j p hj
      rw [List.map_cons, flatP, show (j + 1) * 2 = j * 2 + 1 + 1 from by omega, List.drop_succ_cons, List.drop_succ_cons]
      exact h
theorem R_pairs {β : Type} (f : β → KV) {w : World} {base : Nat} {v : Value} {xs : List β} (h : w.ownsRow base 45 2 v xs.length (flatP (xs.map f))) : Kd.R (Kd.iso kp f) 45 w base (fun _ => True) v xs :=
  ⟨fun _ _ => trivial, _, h, reps_pairs f xs⟩
theorem C_pairs {β : Type} (f : β → KV) {w : World} {A : Option Addr} {n : Nat} {xs : List β} (h : Kd.C (Kd.iso kp f) w A n xs) : Kd.C kp w A n (xs.map f) := by
  refine ⟨by rw [List.length_map]; exact h.1, h.2.1, fun hn => ?_⟩
  obtain ⟨ad, e, hc⟩ := h.2.2 hn
  refine ⟨ad, e, fun j p hj => ?_⟩
  rw [List.getElem?_map] at hj
  cases hx : xs[j]? with
  | none => rw [hx] at hj; cases hj
  | some x =>
    rw [hx] at hj
    injection hj with hj
    subst hj
    exact hc j x hx
theorem pairPost_R {β : Type} (f : β → KV) (g : KV → β) (hfg : ∀ p, f (g p) = p) {r : List KV × Int} {w : World} {e : Ending} {w' : World} (h : PairPost r w e w') :
    ∃ v0_ : Value, e = .returned (.tuple #[v0_, .int .i64 r.2]) ∧ Kd.R (Kd.iso kp f) 45 w' w.heap.size (fun _ => True) v0_ (r.1.map g) ∧ Below w.heap.size w w' := by
  obtain ⟨v, rfl, hr, hb⟩ := h
  refine ⟨v, rfl, R_pairs f ?_, hb⟩
  rw [List.map_map, List.length_map, show (f ∘ g) = id from funext hfg, List.map_id]
  exact hr
end Go.Proofs.YtliaemoomhfcdaaGreat

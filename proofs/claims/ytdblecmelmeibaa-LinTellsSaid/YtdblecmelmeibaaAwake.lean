/- The walk of the calls at the head of all statements. -/
import Derived.Test.YtdblecmelmeibaaActs
import Derived.Test.YtdblecmelmeibaaPlain
namespace Go.Proofs.Ytdblecmelmeibaa
open Go.RowKit Go.Maps Go.ChangeMaps
set_option maxHeartbeats 1000000
set_option maxRecDepth 100000

theorem RA.below {w w' : World} {A : Option Addr} {n : Nat} {acts : List PA} (h : RA w A n acts) (hb : Below w.heap.size w w') : RA w' A n acts :=
  ⟨h.1, fun h0 => by
    obtain ⟨ad, e, hlt, hc⟩ := h.2 h0
    exact ⟨ad, e, by have := hb.size; omega, fun i x hx => (hc i x hx).kept (by rw [block_of_add]; exact hb.block _ hlt)⟩⟩
theorem RA.nil_ (w : World) (A : Option Addr) : RA w A 0 [] := ⟨rfl, fun h => absurd h (by omega)⟩
theorem ra_lit (w : World) (acts : List PA) (cs : Array Value) (g : Nat) (hg : w.heap.size = g) (h : cs = (aCs acts).toArray) (hl : acts.length ≤ 1000) : RA (w.alloc (.cells cs 37)) (some ⟨g, 0, none⟩) acts.length acts := by
  subst hg
  subst h
  have ho := World.ownsRow_lit (base := w.heap.size) (e := 37) (size := 6) w (aCs acts).toArray acts.length (Nat.le_refl _) (by simp only [maxLen]; omega) (by simp [aCs_len])
  obtain ⟨A, c, he, _, hr⟩ := own_acts ho
  injection he with h1
  rw [← h1] at hr
  exact hr

def putA : PA := ⟨0, 5, 1, ⟨#[97]⟩, false, true⟩
def noneA : PA := ⟨1, 2, 2, ⟨#[]⟩, false, true⟩
def lateA : PA := ⟨6, 7, 2, ⟨#[]⟩, false, true⟩
theorem can_yes : Can ⟨#[]⟩ false [putA, noneA] ⟨#[97]⟩ true := by
  rw [can_iff]
  refine ⟨by decide, [noneA, putA], [], ?_, by simp, ?_, ?_⟩
  · exact List.Perm.swap _ _ _
  · simp [noneA, putA]
  · simp [runs, noneA, putA, behindOf, unfit, keyOf']
theorem can_no : ¬ Can ⟨#[]⟩ false [putA, lateA] ⟨#[97]⟩ true := by
  rw [can_iff]
  rintro ⟨_, s, rest, hp, hr, hw, hrun⟩
  have hrest : rest = [] := by
    cases rest with
    | nil => rfl
    | cons y r =>
      have h1 := hr y (by simp)
      have h2 := hp.mem_iff.1 (show y ∈ s ++ y :: r by simp)
      simp at h2
      rcases h2 with rfl | rfl <;> cases h1
  subst hrest
  rw [List.append_nil] at hp
  have hl := hp.length_eq
  match s, hl, hp, hw, hrun with
  | [a, b], _, hp, hw, hrun =>
    have ha := hp.mem_iff.1 (show a ∈ [a, b] by simp)
    have hb := hp.mem_iff.1 (show b ∈ [a, b] by simp)
    have hpa := hp.mem_iff.2 (show putA ∈ [putA, lateA] by simp)
    have hla := hp.mem_iff.2 (show lateA ∈ [putA, lateA] by simp)
    simp at ha hb
    have hne : putA ≠ lateA := by intro h; have := congrArg PA.fr h; simp [putA, lateA] at this
    rcases ha with rfl | rfl <;> rcases hb with rfl | rfl
    · simp at hla; exact hne hla.symm
    · simp [runs, lateA, putA, behindOf, unfit, keyOf'] at hrun
    · simp [lateA, putA] at hw
    · simp at hpa; exact hne hpa

def callE : PE := ⟨0, 1, 1, ⟨#[107]⟩, ⟨#[97]⟩, ⟨#[]⟩, 0, ⟨#[]⟩, false, 0, none, 0, 0⟩
def backE : PE := ⟨0, 2, 0, ⟨#[]⟩, ⟨#[]⟩, ⟨#[]⟩, 0, ⟨#[]⟩, true, 0, none, 0, 0⟩
theorem re_log (w : World) (g : Nat) (hg : w.heap.size = g) : RE (w.alloc (.cells #[.int .i64 0, .int .i64 1, .int .i64 1, .string ⟨#[107]⟩, .string ⟨#[97]⟩, .string ⟨#[]⟩, .int .i64 0, .string ⟨#[]⟩, .bool false, .int .i64 0, .slice none 0 0,
    .int .i64 0, .int .i64 2, .int .i64 0, .string ⟨#[]⟩, .string ⟨#[]⟩, .string ⟨#[]⟩, .int .i64 0, .string ⟨#[]⟩, .bool true, .int .i64 0, .slice none 0 0] 48)) (some ⟨g, 0, none⟩) 2 [callE, backE] := by
  subst hg
  refine ⟨rfl, fun _ => ⟨_, rfl, by simp, fun i x hx => ?_⟩⟩
  have hc := fun o => cell_of_row _ w.heap.size o _ 48 (0, 0) (heap_alloc_new w (.cells #[.int .i64 0, .int .i64 1, .int .i64 1, .string ⟨#[107]⟩, .string ⟨#[97]⟩, .string ⟨#[]⟩, .int .i64 0, .string ⟨#[]⟩, .bool false, .int .i64 0, .slice none 0 0,
    .int .i64 0, .int .i64 2, .int .i64 0, .string ⟨#[]⟩, .string ⟨#[]⟩, .string ⟨#[]⟩, .int .i64 0, .string ⟨#[]⟩, .bool true, .int .i64 0, .slice none 0 0] 48))
  match i, hx with
  | 0, hx =>
    simp at hx
    subst hx
    have ea : (⟨w.heap.size, 0, none⟩ : Addr).add (0 * 11) = ⟨w.heap.size, 0, none⟩ := rfl
    rw [ea]
    refine ⟨?_, ?_, ?_, ?_, ?_, ?_, ?_, ?_, ?_, ?_, ?_⟩ <;> (rw [hc]; rfl)
  | 1, hx =>
    simp at hx
    subst hx
    have ea : (⟨w.heap.size, 0, none⟩ : Addr).add (1 * 11) = ⟨w.heap.size, 11, none⟩ := rfl
    rw [ea]
    refine ⟨?_, ?_, ?_, ?_, ?_, ?_, ?_, ?_, ?_, ?_, ?_⟩ <;> (rw [hc]; rfl)
  | i + 2, hx => simp at hx
theorem acts_log : actsTo [callE, backE] ⟨#[107]⟩ 2 = [⟨0, 1, 1, ⟨#[97]⟩, true, true⟩] := by
  simp [actsTo, actOf, asks, backs, callE, backE, List.findIdx_cons]

theorem box_at {w : World} {g : Nat} {x : PA} (h : Blk w g 37 #[.int .i64 x.fr, .int .i64 x.to, .int .i64 x.kind, .string x.val, .bool x.found, .bool x.sure]) :
    w.cell? ⟨g, 0, none⟩ = some (.int .i64 x.fr) ∧ w.cell? ⟨g, 1, none⟩ = some (.int .i64 x.to) ∧ w.cell? ⟨g, 2, none⟩ = some (.int .i64 x.kind) ∧
      w.cell? ⟨g, 3, none⟩ = some (.string x.val) ∧ w.cell? ⟨g, 4, none⟩ = some (.bool x.found) ∧ w.cell? ⟨g, 5, none⟩ = some (.bool x.sure) :=
  ⟨h.cell 0, h.cell 1, h.cell 2, h.cell 3, h.cell 4, h.cell 5⟩
/-- Check's answer, where it is known. -/
theorem check_yes (v : ByteArray) (b : Bool) (A : Option Addr) (n c : Nat) (acts : List PA) (e : ByteArray) (l : Bool) (w : World) (h : RA w A n acts) (hn : n ≤ 9223372036854775807) (hv : v.size ≤ 1000) (hvs : ∀ x ∈ acts, x.val.size ≤ 1000) (hC : Can v b acts e l) :
    Calls Try.prog 11 #[.string v, .bool b, .slice A n c, .string e, .bool l] w fun en w' => en = .returned (.bool true) ∧ Below w.heap.size w w' :=
  (check_any v b A n c acts e l w h hn hv hvs).mono fun _ _ ⟨_, he, hi, hb⟩ => ⟨by rw [he, hi.2 hC], hb⟩
theorem check_no (v : ByteArray) (b : Bool) (A : Option Addr) (n c : Nat) (acts : List PA) (e : ByteArray) (l : Bool) (w : World) (h : RA w A n acts) (hn : n ≤ 9223372036854775807) (hv : v.size ≤ 1000) (hvs : ∀ x ∈ acts, x.val.size ≤ 1000) (hC : ¬ Can v b acts e l) :
    Calls Try.prog 11 #[.string v, .bool b, .slice A n c, .string e, .bool l] w fun en w' => en = .returned (.bool false) ∧ Below w.heap.size w w' :=
  (check_any v b A n c acts e l w h hn hv hvs).mono fun _ _ ⟨r, he, hi, hb⟩ => ⟨by
    rw [he]
    cases r with
    | false => rfl
    | true => exact absurd (hi.1 rfl) hC, hb⟩

theorem awake_any (w : World) : Calls Try.prog 8 #[] w fun e w' => e = .returned (.bool true) ∧ Below w.heap.size w w' := by
  go_enter Try.func8, Try.ntmps8
  go_wp2_with fail
  refine (acts_any _ 2 2 [callE, backE] ⟨#[107]⟩ _ (re_log _ _ (by simp)) (by omega) (by omega) (by omega)).mono ?_
  rw [acts_log]
  rintro e w1 ⟨A, c, rfl, hc, hr, hB⟩
  have p0 : Blk w1 w.heap.size 37 #[.int .i64 putA.fr, .int .i64 putA.to, .int .i64 putA.kind, .string putA.val, .bool putA.found, .bool putA.sure] :=
    ((((Blk.new w 37 _).alloc _).alloc _).alloc _).below hB (by simp; omega)
  have p1 : Blk w1 (w.heap.size + 1) 37 #[.int .i64 noneA.fr, .int .i64 noneA.to, .int .i64 noneA.kind, .string noneA.val, .bool noneA.found, .bool noneA.sure] :=
    (((show Blk _ (w.heap.size + 1) 37 _ from at_new _ _ _ (by simp)).alloc _).alloc _).below hB (by simp)
  have p2 : Blk w1 (w.heap.size + 1 + 1) 37 #[.int .i64 lateA.fr, .int .i64 lateA.to, .int .i64 lateA.kind, .string lateA.val, .bool lateA.found, .bool lateA.sure] :=
    ((show Blk _ (w.heap.size + 1 + 1) 37 _ from at_new _ _ _ (by simp)).alloc _).below hB (by simp)
  have hB1 : Below w.heap.size w w1 := (((((Below.refl w.heap.size w).alloc (Nat.le_refl _) _).alloc (by simp) _).alloc (by simp <;> omega) _).alloc (by simp <;> omega) _).trans (hB.mono (by simp <;> omega))
  clear hB
  obtain ⟨a0, a1, a2, a3, a4, a5⟩ := box_at p0
  obtain ⟨b0, b1, b2, b3, b4, b5⟩ := box_at p1
  go_wp2_with fail
  refine (check_yes ⟨#[]⟩ false _ 2 2 [putA, noneA] ⟨#[97]⟩ true _ (ra_lit w1 [putA, noneA] _ _ rfl rfl (by simp)) (by omega) (by decide) (fun x hx => by simp at hx; rcases hx with rfl | rfl <;> decide) can_yes).mono ?_
  rintro e w2 ⟨rfl, hB2⟩
  have hB2' : Below w1.heap.size w1 w2 := ((Below.refl _ _).alloc (Nat.le_refl _) _).next hB2
  clear a0 a1 a2 a3 a4 a5 b0 b1 b2 b3 b4 b5 hB2
  have q0 := p0.below hB2' p0.lt
  have q2 := p2.below hB2' p2.lt
  have hr2 := hr.below hB2'
  have hB3 := hB1.next hB2'
  clear p0 p1 p2 hr hB1 hB2'
  obtain ⟨a0, a1, a2, a3, a4, a5⟩ := box_at q0
  obtain ⟨b0, b1, b2, b3, b4, b5⟩ := box_at q2
  go_wp2_with fail
  refine (check_no ⟨#[]⟩ false _ 2 2 [putA, lateA] ⟨#[97]⟩ true _ (ra_lit w2 [putA, lateA] _ _ rfl rfl (by simp)) (by omega) (by decide) (fun x hx => by simp at hx; rcases hx with rfl | rfl <;> decide) can_no).mono ?_
  rintro e w3 ⟨rfl, hB4⟩
  have hB4' : Below w2.heap.size w2 w3 := ((Below.refl _ _).alloc (Nat.le_refl _) _).next hB4
  have hr3 := hr2.below hB4'
  have hB5 := hB3.next hB4'
  clear a0 a1 a2 a3 a4 a5 b0 b1 b2 b3 b4 b5 hB4 q0 q2 hr2 hB3 hB4'
  obtain ⟨ad, x, rfl, _, hx, hat⟩ := hr3.at_ (k := 0) (by simp)
  simp at hx
  subst hx
  have ea : ad.add (0 * 6) = ad := by unfold Addr.add; simp
  rw [ea] at hat
  obtain ⟨h0, h1, h2, h3, h4, h5⟩ := hat
  clear hr3 ea
  go_wp2
  go_ret
  exact ⟨rfl, hB5⟩
end Go.Proofs.Ytdblecmelmeibaa

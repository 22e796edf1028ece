/- The walk of the statement LinNone. -/
import Derived.Test.YtdblecmelmeibaaOpens
namespace Go.Proofs.Ytdblecmelmeibaa
open Go.RowKit Go.Maps Go.ChangeMaps
set_option maxHeartbeats 4000000
set_option maxRecDepth 100000
set_option linter.unusedSimpArgs false

def sameB (v : ByteArray) (b : Bool) (e : ByteArray) (l : Bool) : Bool := (b == l) && (!b || v.toList == e.toList)
theorem same_iff (v : ByteArray) (b : Bool) (e : ByteArray) (l : Bool) : sameB v b e l = true ↔ keyOf' v b = keyOf' e l := by
  rw [key_same]
  unfold sameB
  cases b <;> cases l <;> simp [← bytes_eq]
def wantB (v : ByteArray) (b : Bool) (x : PA) (e : ByteArray) (l : Bool) : Bool :=
  (x.found == b) && (((x.kind == 1) && (l && (e.toList == x.val.toList))) || (((x.kind == 3) && !l) || ((x.kind == 2) && (sameB v b e l && (!b || (x.val.toList == v.toList))))))
theorem keyOf'_false (v : ByteArray) : keyOf' v false = ⟨⟨#[]⟩, false⟩ := rfl
theorem keyOf'_true (v : ByteArray) : keyOf' v true = ⟨v, true⟩ := rfl
theorem want_iff (v : ByteArray) (b : Bool) (x : PA) (hs : x.sure = true) (e : ByteArray) (l : Bool) : wantB v b x e l = true ↔ Can v b [x] e l := by
  rw [can_one v b x hs e l]
  unfold wantB behindOf unfit
  rw [hs]
  by_cases hf : x.found = b
  · subst hf
    by_cases h1 : x.kind = 1
    · have e1 : ((x.kind == 3) = false) ∧ ((x.kind == 2) = false) ∧ (x.kind == 1) = true := by rw [h1]; decide
      simp only [e1.1, e1.2.1, e1.2.2, h1]
      cases hfb : x.found <;> cases l <;> simp [keyOf', ← bytes_eq, hfb] <;> (constructor <;> intro h <;> rw [h])
    · by_cases h3 : x.kind = 3
      · have e1 : ((x.kind == 3) = true) ∧ ((x.kind == 2) = false) ∧ (x.kind == 1) = false := by rw [h3]; decide
        simp only [e1.1, e1.2.1, e1.2.2, h3]
        cases hfb : x.found <;> cases l <;> simp [keyOf', hfb]
      · by_cases h2 : x.kind = 2
        · have e1 : ((x.kind == 3) = false) ∧ ((x.kind == 2) = true) ∧ (x.kind == 1) = false := by rw [h2]; decide
          simp only [e1.1, e1.2.1, e1.2.2, h2]
          cases hfb : x.found <;> cases l <;> cases hv : (x.val.toList == v.toList) <;> simp [keyOf', sameB, hfb, hv, ← bytes_eq]
        · have e1 : ((x.kind == 3) = false) ∧ ((x.kind == 2) = false) ∧ (x.kind == 1) = false := by simp [h1, h2, h3]
          simp only [e1.1, e1.2.1, e1.2.2]
          cases hfb : x.found <;> simp [h1, h3, hfb]
  · have : (x.found == b) = false := by simpa using hf
    have hkb : (keyOf' v b).is = b := by cases b <;> rfl
    simp [this, hf, hkb]

/-- An act that is sure. -/
def sureA (x : PA) : PA := ⟨x.fr, x.to, x.kind, x.val, x.found, true⟩
/-- Check's answer, by a Bool that says what it decides. -/
theorem check_is (v : ByteArray) (b : Bool) (A : Option Addr) (n c : Nat) (acts : List PA) (e : ByteArray) (l : Bool) (w : World) (B : Bool) (h : RA w A n acts) (hn : n ≤ 9223372036854775807) (hv : v.size ≤ 1000) (hvs : ∀ x ∈ acts, x.val.size ≤ 1000) (hC : B = true ↔ Can v b acts e l) :
    Calls Try.prog 11 #[.string v, .bool b, .slice A n c, .string e, .bool l] w fun en w' => en = .returned (.bool B) ∧ Below w.heap.size w w' :=
  (check_any v b A n c acts e l w h hn hv hvs).mono fun _ _ ⟨r, he, hi, hb⟩ => ⟨by
    have : r = B := by
      have h2 := hi.trans hC.symm
      cases r <;> cases B <;> simp_all
    rw [he, this], hb⟩

theorem none_all (v : ByteArray) (b : Bool) (x : PA) (e : ByteArray) (l : Bool) (w : World) (hv : v.size ≤ maxLen) (hx : AWf x) (he : e.size ≤ maxLen) :
    Calls Try.prog 6 #[.string v, .bool b, aV x, .string e, .bool l] w fun en w' => en = .returned (.bool true) ∧ Below w.heap.size w w' := by
  unfold maxLen at hv he
  have hxv := hx.2.2.2
  unfold maxLen at hxv
  have HW := Lib.hid (want_iff v b (sureA x) rfl e l)
  have HS : Hid (sameB v b e l = true ↔ Can v b [] e l) := Lib.hid (by rw [same_iff, can_nil])
  clear hx
  go_enter Try.func6, Try.ntmps6
  go_wp2_with fail
  refine (awake_any _).mono ?_
  rintro en w1 ⟨rfl, hB⟩
  have hbx : Blk w1 w.heap.size 37 #[.int .i64 x.fr, .int .i64 x.to, .int .i64 x.kind, .string x.val, .bool x.found, .bool x.sure] := (Blk.new w 37 _).below hB (by simp)
  have hB1 : Below w.heap.size w w1 := ((Below.refl w.heap.size w).alloc (Nat.le_refl _) _).next hB
  have hz : w.heap.size < w1.heap.size := hbx.lt
  have f1 : ∀ o, w1.frozen? ⟨w.heap.size, o, none⟩ = false := fun o => hbx.frozen o
  clear hB
  obtain ⟨a0, a1, a2, a3, a4, a5⟩ := box_at hbx
  have HBX := Lib.hid hbx
  clear hbx
  by_cases h1 : 100 < v.size
  · go_wp2
    go_ret
    exact ⟨rfl, hB1⟩
  · by_cases h2 : 100 < e.size
    · go_wp2
      go_ret
      exact ⟨rfl, hB1⟩
    · by_cases h3 : 100 < x.val.size
      · go_wp2
        go_ret
        exact ⟨rfl, hB1⟩
      · go_upto_region 4 with fail
        go_cut [12] (fun s wx => s = .bool (sameB v b e l) ∧ wx = w1)
        case first =>
          cases b <;> cases l <;> cases hve : (v.toList == e.toList)
          all_goals
            go_wp2_with fail
            go_meet
            exact ⟨by simp [sameB, hve], rfl⟩
        case rest =>
          obtain ⟨rfl, hwc⟩ := hcut
          subst hwc
          obtain ⟨S, hS⟩ : ∃ S, sameB v b e l = S := ⟨_, rfl⟩
          rw [hS]
          have HSE := Lib.hid hS
          clear hS
          have hS3 : (sureA x).val.size ≤ 1000 := by show x.val.size ≤ 1000; omega
          go_wp2_with fail
          refine (check_is v b _ 1 1 [sureA x] e l _ (wantB v b (sureA x) e l) (ra_lit _ [sureA x] _ _ (by simp) rfl (by simp)) (by omega) (by omega) (fun y hy => by simp at hy; rw [hy]; exact hS3) HW.out).mono ?_
          rintro en w2 ⟨rfl, hB2⟩
          have hb0 := HBX.out.set_ 5 (.bool true)
          simp only [List.setIfInBounds_toArray, List.set_cons_zero, List.set_cons_succ] at hb0
          have hb2 : Blk w2 w.heap.size 37 #[.int .i64 x.fr, .int .i64 x.to, .int .i64 x.kind, .string x.val, .bool x.found, .bool true] := (hb0.alloc _).below hB2 (by simp; omega)
          have hB3 : Below w.heap.size w w2 := ((hB1.setCell (Nat.le_refl _) _).alloc (by simp; omega) _).trans (hB2.mono (by simp; omega))
          clear hB2 hB1 hb0 a0 a1 a2 a3 a4 a5 f1
          have c2 : w2.cell? ⟨w.heap.size, 2, none⟩ = some (.int .i64 x.kind) := hb2.cell 2
          have c3 : w2.cell? ⟨w.heap.size, 3, none⟩ = some (.string x.val) := hb2.cell 3
          have c4 : w2.cell? ⟨w.heap.size, 4, none⟩ = some (.bool x.found) := hb2.cell 4
          clear hb2
          go_upto_region 7 with fail
          go_cut [14] (fun s wx => s = .bool (wantB v b (sureA x) e l) ∧ wx = w2)
          case first =>
            cases hf : (x.found == b)
            · go_wp2_with fail
              go_meet
              exact ⟨by simp [wantB, sureA, hf], rfl⟩
            · cases k1 : (x.kind == 1)
              · cases k3 : (x.kind == 3)
                · cases k2 : (x.kind == 2)
                  · go_wp2_with fail
                    go_meet
                    exact ⟨by simp [wantB, sureA, hf, k1, k2, k3], rfl⟩
                  · cases S
                    · go_wp2_with fail
                      go_meet
                      exact ⟨by simp [wantB, sureA, hf, k1, k2, k3, HSE.out], rfl⟩
                    · cases b <;> cases hvx : (x.val.toList == v.toList)
                      all_goals
                        go_wp2_with fail
                        go_meet
                        exact ⟨by simp [wantB, sureA, hf, k1, k2, k3, HSE.out, hvx], rfl⟩
                · have k2 : (x.kind == 2) = false := by simp at k3 ⊢; omega
                  cases l
                  all_goals
                    go_wp2_with fail
                    go_meet
                    exact ⟨by simp [wantB, sureA, hf, k1, k2, k3], rfl⟩
              · have k2 : (x.kind == 2) = false := by simp at k1 ⊢; omega
                have k3 : (x.kind == 3) = false := by simp at k1 ⊢; omega
                cases l <;> cases hve : (e.toList == x.val.toList)
                all_goals
                  go_wp2_with fail
                  go_meet
                  exact ⟨by simp [wantB, sureA, hf, k1, k2, k3, hve], rfl⟩
          case rest =>
            obtain ⟨rfl, hwc⟩ := hcut
            subst hwc
            go_wp2_with fail
            refine (check_is v b none 0 0 [] e l _ S (RA.nil_ _ _) (by omega) (by omega) (fun y hy => by simp at hy) (by rw [← HSE.out]; exact HS.out)).mono ?_
            rintro en w3 ⟨rfl, hB4⟩
            go_wp2
            go_ret
            exact ⟨rfl, hB3.next hB4⟩
end Go.Proofs.Ytdblecmelmeibaa

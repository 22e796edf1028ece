/- The walk of the statement LinApart. -/
import Derived.Test.YtdblecmelmeibaaSets
import Derived.Deep.DeepCutAuto
import Derived.Deep.CutBlock
namespace Go.Proofs.Ytdblecmelmeibaa
open Go.RowKit Go.Maps Go.ChangeMaps
set_option maxHeartbeats 8000000
set_option maxRecDepth 100000
set_option linter.unusedSimpArgs false

theorem short_sizes' {acts : List PA} {m : Int} (h : shortOf acts m = true) : (∀ x ∈ acts, x.val.size ≤ 100) ∧ (acts.length : Int) ≤ m := by
  unfold shortOf at h
  simp only [Bool.and_eq_true, List.all_eq_true, decide_eq_true_eq] at h
  exact h
/-- Are the first ones' times within bounds? -/
def Within (acts : List PA) (k : Nat) : Prop := ∀ j x, j < k → acts[j]? = some x → 0 ≤ x.fr ∧ x.fr ≤ 999 ∧ 0 ≤ x.to ∧ x.to ≤ 999
theorem within_step {acts : List PA} {k : Nat} {x : PA} (h : Within acts k) (hx : acts[k]? = some x) (hb : 0 ≤ x.fr ∧ x.fr ≤ 999 ∧ 0 ≤ x.to ∧ x.to ≤ 999) : Within acts (k + 1) := by
  intro j y hj hy
  by_cases e : j = k
  · subst e
    rw [hx] at hy
    injection hy with hy
    rw [← hy]; exact hb
  · exact h j y (by omega) hy


open Classical in
theorem apart_good (v : ByteArray) (b : Bool) (A1 : Option Addr) (n1 c1 : Nat) (l1 : List PA) (A2 : Option Addr) (n2 c2 : Nat) (l2 : List PA) (m e : ByteArray) (l : Bool) (w : World)
    (hv : v.size ≤ 100) (hm : m.size ≤ 100) (he : e.size ≤ 100) (hs1 : shortOf l1 8 = true) (hs2 : shortOf l2 8 = true) (hr1 : RA w A1 n1 l1) (hr2 : RA w A2 n2 l2) (hc1 : n1 ≤ c1) (hc2 : n2 ≤ c2) (hm1 : c1 ≤ 9223372036854775807) (hm2 : c2 ≤ 9223372036854775807) :
    Calls Try.prog 7 #[.string v, .bool b, .slice A1 n1 c1, .slice A2 n2 c2, .string m, .string e, .bool l] w fun en w' => en = .returned (.bool true) ∧ Below w.heap.size w w' := by
  have HS1 := Lib.hid (short_sizes' hs1)
  have HS2 := Lib.hid (short_sizes' hs2)
  have HR1 := Lib.hid hr1
  have HR2 := Lib.hid hr2
  have hn1 : n1 ≤ 8 := by have := HS1.out.2; have := hr1.1; omega
  have hn2 : n2 ≤ 8 := by have := HS2.out.2; have := hr2.1; omega
  have HQ1 := Lib.hid hs1
  have HQ2 := Lib.hid hs2
  clear hr1 hr2 hs1 hs2
  obtain ⟨i0, hi, hz0_, hz1_, hz2_⟩ := info_parts info37
  go_enter Try.func7, Try.ntmps7
  go_wp2_with fail
  refine (awake_any _).mono ?_
  rintro en w1 ⟨rfl, hB⟩
  have HB := Lib.hid hB
  clear hB
  go_wp2_with fail
  refine (short_any A1 n1 c1 l1 8 _ (HR1.out.below HB.out) (by omega)).mono ?_
  rw [HQ1.out]
  rintro en w2 ⟨rfl, rfl⟩
  go_wp2_with fail
  refine (short_any A2 n2 c2 l2 8 _ (HR2.out.below HB.out) (by omega)).mono ?_
  rw [HQ2.out]
  rintro en w2 ⟨rfl, rfl⟩
  go_wp2_with (first
    | (at_builtin
       refine wpList_append_any _ rfl (.tmp 47) (.tmp 48) _ rfl w1.heap.size 37 i0 _ 6 48 Try.underlying22 hi hz0_ hz1_ hz2_ rfl (by omega) _ 0 [] rfl (owns_empty _ 37 6 _ rfl) _ A1 n1 c1 (aCs l1) rfl (ra_reads ((HR1.out.below HB.out).below ((Below.refl _ _).alloc (Nat.le_refl _) _))) (aCs_one _) (by simp only [maxLen]; omega) (by omega) (by simp) ?_
       intro v3 w3 hown3 hg3 hat3
       simp only [Nat.zero_add, List.nil_append] at hown3
       have HO3 := Lib.hid hown3
       have HB3 := Lib.hid (((Below.refl w1.heap.size w1).alloc (Nat.le_refl _) (.cells #[] 37)).grown hg3 (by simp) (fun g hg => own_ge (owns_empty w1 37 6 w1.heap.size rfl) hg))
       clear hown3 hg3 hat3))
  go_loop [17] (fun i => ∃ k : Nat, k ≤ n1 ∧ i = .int .i64 k ∧ Hid (Within l1 k)) (fun i => n1 - (intOf i).toNat)
  case atStart => exact ⟨0, by omega, rfl, Lib.hid (fun j x hj => by omega)⟩
  case round =>
    obtain ⟨k, hk, rfl, HW⟩ := hrel
    by_cases hlt : k < n1
    · obtain ⟨ad, x, rfl, hb, hx, hat⟩ := ((HR1.out.below HB.out).below HB3.out).at_ hlt
      have HX := Lib.hid hx
      obtain ⟨h0, h1, h2, h3, h4, h5⟩ := hat
      clear hx
      by_cases r1 : x.fr < 0
      · go_wp2
        go_ret
        exact ⟨rfl, HB.out.next HB3.out⟩
      by_cases r2 : 999 < x.fr
      · go_wp2
        go_ret
        exact ⟨rfl, HB.out.next HB3.out⟩
      by_cases r3 : x.to < 0
      · go_wp2
        go_ret
        exact ⟨rfl, HB.out.next HB3.out⟩
      by_cases r4 : 999 < x.to
      · go_wp2
        go_ret
        exact ⟨rfl, HB.out.next HB3.out⟩
      go_wp2
      exact ⟨⟨k + 1, by omega, by go_num, Lib.hid (within_step HW.out HX.out (by omega))⟩, by simp [intOf]; omega⟩
    · obtain rfl : k = n1 := by omega
      go_wp2
      have HW1 := HW
      clear HW
      go_loopw [16, 18] (fun v i wr => ∃ q : Nat, q ≤ n2 ∧ i = .int .i64 q ∧ Hid (wr.ownsRow w1.heap.size 37 6 v (k + q) (aCs (l1 ++ (l2.take q).map (later 1000)))) ∧ Hid (Below w1.heap.size w1 wr) ∧ Hid (Within l2 q)) (fun _ i _ => n2 - (intOf i).toNat)
      case atStart => exact ⟨0, by omega, rfl, by simpa using HO3, HB3, Lib.hid (fun j x hj => by omega)⟩
      case round =>
        obtain ⟨q, hq, rfl, HO, HBR, HW⟩ := hrel
        by_cases hlt : q < n2
        · obtain ⟨ad, x, rfl, hb, hx, hat⟩ := ((HR2.out.below HB.out).below HBR.out).at_ hlt
          have HX := Lib.hid hx
          obtain ⟨h0, h1, h2, h3, h4, h5⟩ := hat
          clear hx
          by_cases r1 : x.fr < 0
          · go_wp2
            go_ret
            exact ⟨rfl, HB.out.next HBR.out⟩
          by_cases r2 : 999 < x.fr
          · go_wp2
            go_ret
            exact ⟨rfl, HB.out.next HBR.out⟩
          by_cases r3 : x.to < 0
          · go_wp2
            go_ret
            exact ⟨rfl, HB.out.next HBR.out⟩
          by_cases r4 : 999 < x.to
          · go_wp2
            go_ret
            exact ⟨rfl, HB.out.next HBR.out⟩
          have hz : w1.heap.size ≤ wr.heap.size := HBR.out.size
          go_wp2_with (first
            | (at_builtin
               refine wpList_append_any _ rfl _ _ _ rfl w1.heap.size 37 i0 _ 6 48 Try.underlying22 hi hz0_ hz1_ hz2_ rfl (by omega) _ _ _ rfl ((HO.out.alloc _).alloc _) _ (some ⟨wr.heap.size + 1, 0, none⟩) 1 1 (aCs [later 1000 x]) rfl (lit37 _ (later 1000 x) _ (by simp)) (aCs_one _) (by simp only [maxLen]; omega) (by omega) (by simp; omega) ?_
               intro v5 w5 hown5 hg5 hat5))
          refine ⟨⟨q + 1, by omega, by go_num, Lib.hid ?_, Lib.hid (((HBR.out.alloc hz _).alloc (by simp; omega) _).grown hg5 (by simp; omega) (fun g hg => own_ge HO.out hg)), Lib.hid (within_step HW.out HX.out (by omega))⟩, by simp [intOf]; omega⟩
          rw [List.take_add_one, HX.out, Option.toList_some, List.map_append, ← List.append_assoc, aCs_append, ← Nat.add_assoc]
          exact hown5
        · obtain rfl : q = n2 := by omega
          obtain ⟨s1, E1⟩ : ∃ s : Bool, Hid (s = true ↔ Can v b l1 m true) := ⟨decide _, Lib.hid decide_eq_true_iff⟩
          obtain ⟨s2, E2⟩ : ∃ s : Bool, Hid (s = true ↔ Can m true l2 e l) := ⟨decide _, Lib.hid decide_eq_true_iff⟩
          obtain ⟨s3, E3⟩ : ∃ s : Bool, Hid (s = true ↔ Can v b l1 ⟨#[]⟩ false) := ⟨decide _, Lib.hid decide_eq_true_iff⟩
          obtain ⟨s4, E4⟩ : ∃ s : Bool, Hid (s = true ↔ Can ⟨#[]⟩ false l2 e l) := ⟨decide _, Lib.hid decide_eq_true_iff⟩
          have HA1 := Lib.hid ((HR1.out.below HB.out).below HBR.out)
          have HA2 := Lib.hid ((HR2.out.below HB.out).below HBR.out)
          have HBW := Lib.hid (HB.out.next HBR.out)
          obtain ⟨A3, c3, rfl, h3c, hra⟩ : ∃ A c, u16 = .slice A (k + q) c ∧ k + q ≤ c ∧ RA wr A (k + q) (l1 ++ (l2.take q).map (later 1000)) := by
            have h := HO.out
            have el := own_full h
            rw [← el] at h ⊢
            exact own_acts h
          rw [List.take_of_length_le (by rw [HR2.out.1]; exact Nat.le_refl _)] at hra
          have HBO := Lib.hid hra
          have HCB : Hid ((s1 && s2) = true ∨ (s3 && s4) = true → Can v b (l1 ++ l2.map (later 1000)) e l) := Lib.hid (by
            have h1 : ∀ x ∈ l1, x.fr ≤ 999 := fun x hx => by
              obtain ⟨j, hj, rfl⟩ := List.mem_iff_getElem.1 hx
              exact (HW1.out j _ (by rw [← HR1.out.1]; exact hj) (List.getElem?_eq_getElem hj)).2.1
            have h2 : ∀ y ∈ l2.map (later 1000), 999 ≤ y.to := fun y hy => by
              obtain ⟨x, hx, rfl⟩ := List.mem_map.1 hy
              obtain ⟨j, hj, rfl⟩ := List.mem_iff_getElem.1 hx
              have := (HW.out j _ (by rw [← HR2.out.1]; exact hj) (List.getElem?_eq_getElem hj)).2.2.1
              simp only [later]; omega
            have h3 : l1.length + (l2.map (later 1000)).length ≤ 20 := by rw [List.length_map, HR1.out.1, HR2.out.1]; omega
            rintro (h | h)
            · rw [Bool.and_eq_true] at h
              exact can_apart h1 h2 (E1.out.1 h.1) (can_later 1000 (E2.out.1 h.2)) h3
            · rw [Bool.and_eq_true] at h
              exact can_apart h1 h2 (E3.out.1 h.1) (can_later 1000 (E4.out.1 h.2)) h3)
          clear hra HO HBR HB HB3 HO3 HW HW1 hi hz0_ hz1_ hz2_
          go_upto_region 19 with fail
          go_cut [20] (fun s wx => s = .bool (s1 && s2) ∧ Hid (Below wr.heap.size wr wx))
          case first =>
            cases s1 with
            | false =>
              go_wp2_with fail
              refine (check_is v b A1 k c1 l1 m true _ false HA1.out (by omega) (by omega) (fun y hy => Nat.le_trans (HS1.out.1 y hy) (by omega)) (by simpa using E1.out)).mono ?_
              rintro en w7 ⟨rfl, hB7⟩
              go_wp2_with fail
              go_meet
              exact ⟨rfl, Lib.hid hB7⟩
            | true =>
              go_wp2_with fail
              refine (check_is v b A1 k c1 l1 m true _ true HA1.out (by omega) (by omega) (fun y hy => Nat.le_trans (HS1.out.1 y hy) (by omega)) (by simpa using E1.out)).mono ?_
              rintro en w7 ⟨rfl, hB7⟩
              go_wp2_with fail
              refine (check_is m true A2 q c2 l2 e l _ s2 (HA2.out.below hB7) (by omega) (by omega) (fun y hy => Nat.le_trans (HS2.out.1 y hy) (by omega)) (by simpa using E2.out)).mono ?_
              rintro en w8 ⟨rfl, hB8⟩
              go_wp2_with fail
              go_meet
              exact ⟨rfl, Lib.hid (hB7.next hB8)⟩
          case rest =>
          obtain ⟨rfl, HC1⟩ := hcut
          obtain ⟨W6, rfl⟩ : ∃ W6 : World, W6 = wc := ⟨_, rfl⟩
          generalize hS : (s1 && s2) = S at HCB ⊢
          clear hS E1 E2
          go_upto_region 20 with fail
          go_cut [21] (fun s wx => s = .bool (s3 && s4) ∧ Hid (Below W6.heap.size W6 wx))
          case first =>
            cases s3 with
            | false =>
              go_wp2_with fail
              refine (check_is v b A1 k c1 l1 ⟨#[]⟩ false _ false (HA1.out.below HC1.out) (by omega) (by omega) (fun y hy => Nat.le_trans (HS1.out.1 y hy) (by omega)) (by simpa using E3.out)).mono ?_
              rintro en w7 ⟨rfl, hB7⟩
              go_wp2_with fail
              go_meet
              exact ⟨rfl, Lib.hid hB7⟩
            | true =>
              go_wp2_with fail
              refine (check_is v b A1 k c1 l1 ⟨#[]⟩ false _ true (HA1.out.below HC1.out) (by omega) (by omega) (fun y hy => Nat.le_trans (HS1.out.1 y hy) (by omega)) (by simpa using E3.out)).mono ?_
              rintro en w7 ⟨rfl, hB7⟩
              go_wp2_with fail
              refine (check_is ⟨#[]⟩ false A2 q c2 l2 e l _ s4 ((HA2.out.below HC1.out).below hB7) (by omega) (by decide) (fun y hy => Nat.le_trans (HS2.out.1 y hy) (by omega)) (by simpa using E4.out)).mono ?_
              rintro en w8 ⟨rfl, hB8⟩
              go_wp2_with fail
              go_meet
              exact ⟨rfl, Lib.hid (hB7.next hB8)⟩
          case rest =>
          obtain ⟨rfl, HC2⟩ := hcut
          generalize hN : (s3 && s4) = N at HCB ⊢
          clear hN E3 E4
          cases hSN : (S || N) with
          | false =>
            rw [Bool.or_eq_false_iff] at hSN
            obtain ⟨rfl, rfl⟩ := hSN
            go_wp2
            go_ret
            exact ⟨rfl, (HBW.out.next HC1.out).next HC2.out⟩
          | true =>
            have HCC := Lib.hid (HCB.out (by simpa using hSN))
            have HVB : Hid (∀ x ∈ l1 ++ l2.map (later 1000), x.val.size ≤ 1000) := Lib.hid (by
              intro x hx
              rcases List.mem_append.1 hx with h | h
              · exact Nat.le_trans (HS1.out.1 x h) (by omega)
              · obtain ⟨y, hy, rfl⟩ := List.mem_map.1 h
                exact Nat.le_trans (HS2.out.1 y hy) (by omega))
            clear HCB
            cases S with
            | true =>
              go_wp2_with fail
              refine (check_yes v b A3 (k + q) c3 _ e l _ ((HBO.out.below HC1.out).below HC2.out) (by omega) (by omega) HVB.out HCC.out).mono ?_
              rintro en w9 ⟨rfl, hB9⟩
              go_wp2
              go_ret
              exact ⟨rfl, ((HBW.out.next HC1.out).next HC2.out).next hB9⟩
            | false =>
              obtain rfl : N = true := by simpa using hSN
              go_wp2_with fail
              refine (check_yes v b A3 (k + q) c3 _ e l _ ((HBO.out.below HC1.out).below HC2.out) (by omega) (by omega) HVB.out HCC.out).mono ?_
              rintro en w9 ⟨rfl, hB9⟩
              go_wp2
              go_ret
              exact ⟨rfl, ((HBW.out.next HC1.out).next HC2.out).next hB9⟩

theorem apart_all (v : ByteArray) (b : Bool) (A1 : Option Addr) (n1 c1 : Nat) (l1 : List PA) (A2 : Option Addr) (n2 c2 : Nat) (l2 : List PA) (m e : ByteArray) (l : Bool) (w : World)
    (hv : v.size ≤ maxLen) (h1 : n1 ≤ c1 ∧ c1 ≤ maxLen ∧ RA w A1 n1 l1) (h2 : n2 ≤ c2 ∧ c2 ≤ maxLen ∧ RA w A2 n2 l2) (hm : m.size ≤ maxLen) (he : e.size ≤ maxLen) :
    Calls Try.prog 7 #[.string v, .bool b, .slice A1 n1 c1, .slice A2 n2 c2, .string m, .string e, .bool l] w fun en w' => en = .returned (.bool true) ∧ Below w.heap.size w w' := by
  unfold maxLen at hv h1 h2 hm he
  obtain ⟨a1, a2, hr1⟩ := h1
  obtain ⟨b1, b2, hr2⟩ := h2
  by_cases q1 : v.size ≤ 100
  · by_cases q2 : m.size ≤ 100
    · by_cases q3 : e.size ≤ 100
      · cases hs1 : shortOf l1 8 with
        | true =>
          cases hs2 : shortOf l2 8 with
          | true => exact apart_good v b A1 n1 c1 l1 A2 n2 c2 l2 m e l w q1 q2 q3 hs1 hs2 hr1 hr2 a1 b1 a2 b2
          | false =>
            have HR1 := Lib.hid hr1
            have HR2 := Lib.hid hr2
            clear hr1 hr2
            go_enter Try.func7, Try.ntmps7
            go_wp2_with fail
            refine (awake_any _).mono ?_
            rintro en w1 ⟨rfl, hB⟩
            go_wp2_with fail
            refine (short_any A1 n1 c1 l1 8 _ (HR1.out.below hB) (by omega)).mono ?_
            rw [hs1]
            rintro en w2 ⟨rfl, rfl⟩
            go_wp2_with fail
            refine (short_any A2 n2 c2 l2 8 _ (HR2.out.below hB) (by omega)).mono ?_
            rw [hs2]
            rintro en w2 ⟨rfl, rfl⟩
            go_wp2
            go_ret
            exact ⟨rfl, hB⟩
        | false =>
          have HR1 := Lib.hid hr1
          clear hr1 hr2
          go_enter Try.func7, Try.ntmps7
          go_wp2_with fail
          refine (awake_any _).mono ?_
          rintro en w1 ⟨rfl, hB⟩
          go_wp2_with fail
          refine (short_any A1 n1 c1 l1 8 _ (HR1.out.below hB) (by omega)).mono ?_
          rw [hs1]
          rintro en w2 ⟨rfl, rfl⟩
          go_wp2
          go_ret
          exact ⟨rfl, hB⟩
      · clear hr1 hr2
        go_enter Try.func7, Try.ntmps7
        go_wp2_with fail
        refine (awake_any _).mono ?_
        rintro en w1 ⟨rfl, hB⟩
        go_wp2
        go_ret
        exact ⟨rfl, hB⟩
    · clear hr1 hr2
      go_enter Try.func7, Try.ntmps7
      go_wp2_with fail
      refine (awake_any _).mono ?_
      rintro en w1 ⟨rfl, hB⟩
      go_wp2
      go_ret
      exact ⟨rfl, hB⟩
  · clear hr1 hr2
    go_enter Try.func7, Try.ntmps7
    go_wp2_with fail
    refine (awake_any _).mono ?_
    rintro en w1 ⟨rfl, hB⟩
    go_wp2
    go_ret
    exact ⟨rfl, hB⟩
end Go.Proofs.Ytdblecmelmeibaa

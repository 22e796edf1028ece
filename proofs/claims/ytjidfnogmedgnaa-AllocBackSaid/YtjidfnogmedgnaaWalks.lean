/- The walks of the alloc functions: what each computes, over lists of numbers. -/
import Derived.Test.YtjidfnogmedgnaaProg
import Derived.Test.YtjidfnogmedgnaaOwn
import Derived.Test.YtjidfnogmedgnaaShelf
import Derived.WalkKit
import Derived.Carry
import Derived.KernelRfl
import Derived.IntWalk
import Derived.WalkLawsBesides
import Derived.WalkSpells
import Derived.Deep.WholeRow
import Derived.Deep.RegionHeld3
import Derived.Lib.Hide
import Derived.Lib.SliceRun
import Derived.Scope
import Derived.FnLit
namespace Go.Proofs.Ytjidfnogmedgnaa
open Go.RowKit
set_option maxHeartbeats 1000000
set_option maxRecDepth 100000

theorem _root_.Go.RowKit.Below.next {w a b : World} (h : Below w.heap.size w a) (k : Below a.heap.size a b) : Below w.heap.size w b := h.trans (k.mono h.size)
theorem ret_int {k : IntKind} {a b : Int} (h : a = b) : Ending.returned (.int k a) = .returned (.int k b) := by rw [h]
theorem ret_bool {a b : Bool} (h : a = b) : Ending.returned (.bool a) = .returned (.bool b) := by rw [h]

abbrev ints (l : List Int) : List Value := l.map (Value.int .i64)
theorem ints_one (l : List Int) : ∀ u ∈ ints l, u.oneCell' = true := by
  intro u hu
  obtain ⟨x, _, rfl⟩ := List.mem_map.1 hu
  rfl
theorem ints_get {l : List Int} {k : Nat} {u : Value} (h : (ints l)[k]? = some u) : ∃ x, l[k]? = some x ∧ u = .int .i64 x := by
  rw [List.getElem?_map] at h
  cases hx : l[k]? with
  | none => rw [hx] at h; cases h
  | some x => rw [hx] at h; injection h with h; exact ⟨x, rfl, h.symm⟩

/-- A slice that reads as these numbers, in this world. -/
def RI (w : World) (A : Option Addr) (n : Nat) (xs : List Int) : Prop := Reads w w.heap.size 1 A n (ints xs)
theorem RI.below {w w' : World} {A : Option Addr} {n : Nat} {xs : List Int} (h : RI w A n xs) (hb : Below w.heap.size w w') : RI w' A n xs :=
  (Reads.below h hb).more hb.size
theorem RI.len {w : World} {A : Option Addr} {n : Nat} {xs : List Int} (h : RI w A n xs) : xs.length = n := by
  have := h.1; simpa using this
theorem RI.at_ {w : World} {A : Option Addr} {n : Nat} {xs : List Int} (h : RI w A n xs) {k : Nat} (hk : k < n) :
    ∃ ad x, A = some ad ∧ ad.block < w.heap.size ∧ xs[k]? = some x ∧ w.cell? (ad.add k) = some (.int .i64 x) := by
  obtain ⟨ad, u, e, hb, hx, hc⟩ := Reads.at_ h hk
  obtain ⟨x, hx', rfl⟩ := ints_get hx
  exact ⟨ad, x, e, hb, hx', hc⟩

/-! ### Plain functions -/
/-- Numbers that rise from one on, each a block's. -/
def chkFrom (last : Int) : List Int → Bool
  | [] => true
  | n :: l => decide (0 < n) && decide (n < 256) && decide (last < n) && chkFrom n l
def chk (l : List Int) : Bool := chkFrom 0 l
def isBlock (n : Int) : Bool := decide (0 < n) && decide (n < 256)

theorem block_any (n : Int) (w : World) : Calls Try.prog 19 #[.int .i64 n] w fun e w' => e = .returned (.bool (isBlock n)) ∧ w = w' := by
  by_cases h0 : 0 < n
  · have H := Lib.hid (show isBlock n = decide (n < 256) from by simp [isBlock, h0])
    go_enter Try.func19, Try.ntmps19
    go_wp2
    go_ret
    exact ⟨ret_bool H.out.symm, rfl⟩
  · have H := Lib.hid (show isBlock n = false from by simp [isBlock, h0])
    go_enter Try.func19, Try.ntmps19
    go_wp2
    go_ret
    exact ⟨ret_bool H.out.symm, rfl⟩

theorem chk_step (la : Int) (xs : List Int) (k : Nat) (x : Int) (h : xs[k]? = some x) :
    chkFrom la (xs.drop k) = (isBlock x && decide (la < x) && chkFrom x (xs.drop (k + 1))) := by
  have hk : k < xs.length := by
    rcases Nat.lt_or_ge k xs.length with h' | h'
    · exact h'
    · rw [List.getElem?_eq_none h'] at h; cases h
  rw [List.getElem?_eq_getElem hk] at h
  injection h with h
  rw [List.drop_eq_getElem_cons hk, h]
  rfl

theorem check_any (A : Option Addr) (n c : Nat) (xs : List Int) (w : World) (h : RI w A n xs) (hn : n ≤ 1000000000) :
    Calls Try.prog 16 #[.slice A n c] w fun e w' => e = .returned (.bool (chk xs)) ∧ w = w' := by
  have HR := Lib.hid h
  clear h
  go_enter Try.func16, Try.ntmps16
  go_wp2
  go_step3
  go_wp2
  go_step3
  go_wp2
  go_loop [3, 4, 9] (fun ok la i => ∃ (k : Nat) (l : Int), k ≤ n ∧ i = .int .i64 k ∧ la = .int .i64 l ∧ ok = .bool true ∧ Hid (chk xs = chkFrom l (xs.drop k))) (fun _ _ i => n - (intOf i).toNat)
  case atStart => exact ⟨0, 0, by omega, rfl, rfl, rfl, Lib.hid rfl⟩
  case round =>
    obtain ⟨k, la, hk, rfl, rfl, rfl, HC⟩ := hrel
    by_cases hlt : k < n
    · obtain ⟨ad, x, rfl, hb, hx, hc⟩ := HR.out.at_ hlt
      have HS := Lib.hid (chk_step la xs k x hx)
      clear hx
      cases hbx : isBlock x with
      | false =>
        go_wp2_with fail
        refine (block_any x _).mono ?_
        rw [hbx]
        rintro e w1 ⟨rfl, rfl⟩
        go_wp2
        first | go_ret | (rw [Exit.noGoto_ret]; go_ret)
        exact ⟨ret_bool (by rw [HC.out, HS.out, hbx]; rfl), rfl⟩
      | true =>
        by_cases hlx : la < x
        · go_wp2_with fail
          refine (block_any x _).mono ?_
          rw [hbx]
          rintro e w1 ⟨rfl, rfl⟩
          go_wp2
          refine ⟨⟨k + 1, x, by omega, by go_num, rfl, rfl, Lib.hid ?_⟩, by simp [intOf]; omega⟩
          rw [HC.out, HS.out, hbx]
          simp [hlx]
        · have hd : decide (la < x) = false := by simpa using hlx
          go_wp2_with fail
          refine (block_any x _).mono ?_
          rw [hbx]
          rintro e w1 ⟨rfl, rfl⟩
          go_wp2
          first | go_ret | (rw [Exit.noGoto_ret]; go_ret)
          exact ⟨ret_bool (by rw [HC.out, HS.out, hbx, hd]; rfl), rfl⟩
    · have HE := Lib.hid (show chk xs = true from by rw [HC.out, List.drop_eq_nil_of_le (by have := HR.out.len; omega)]; rfl)
      go_wp2
      first | go_ret | (rw [Exit.noGoto_ret]; go_ret)
      exact ⟨ret_bool HE.out.symm, rfl⟩

theorem int_info : (Try.prog.info? 3).map (fun i => (i.zero, i.size, i.bytes)) = some (some (.int .i64 0), 1, 8) := by kernel_rfl
theorem owns_empty (w : World) (e : TypeId) (size : Nat) : (w.alloc (.cells #[] e)).ownsRow w.heap.size e size (.slice (some ⟨w.heap.size, 0, none⟩) 0 0) 0 [] := by
  refine ⟨by simp, .inr ⟨w.heap.size, 0, #[], rfl, Nat.le_refl _, heap_alloc_new _ _, Nat.le_refl _, by simp [maxLen], by simp, by simp⟩⟩
theorem own_ge {w : World} {base e size n : Nat} {v : Value} {xs : List Value} (h : w.ownsRow base e size v n xs) {k : Nat} (hk : v.ownBlock = some k) : base ≤ k := by
  rcases h.2 with ⟨rfl, _⟩ | ⟨g, cap, cur, rfl, hg, _⟩
  · simp [Value.ownBlock] at hk
  · simp [Value.ownBlock] at hk
    omega
theorem own_form {w : World} {base e n : Nat} {v : Value} {xs : List Int} (h : w.ownsRow base e 1 v n (ints xs)) : ∃ A c, v = .slice A n c ∧ RI w A n xs := by
  rcases h.2 with ⟨rfl, rfl⟩ | ⟨g, cap, cur, rfl, _⟩
  · exact ⟨none, 0, rfl, Reads.of_own h⟩
  · exact ⟨_, cap, rfl, Reads.of_own h⟩
theorem own_cap {w : World} {base e n : Nat} {v : Value} {xs : List Int} (h : w.ownsRow base e 1 v n (ints xs)) : ∃ A c, v = .slice A n c ∧ n ≤ c ∧ RI w A n xs := by
  rcases h.2 with ⟨rfl, rfl⟩ | ⟨g, cap, cur, rfl, _, _, hc, _⟩
  · exact ⟨none, 0, rfl, Nat.le_refl _, Reads.of_own h⟩
  · exact ⟨_, cap, rfl, hc, Reads.of_own h⟩

theorem own_lt {w : World} {base e size n : Nat} {v : Value} {xs : List Value} (h : w.ownsRow base e size v n xs) {g : Nat} (hg : v.ownBlock = some g) : g < w.heap.size := by
  rcases h.2 with ⟨rfl, _⟩ | ⟨g', cap, cur, rfl, _, hh, _⟩
  · simp [Value.ownBlock] at hg
  · simp [Value.ownBlock] at hg
    subst hg
    rcases Nat.lt_or_ge g' w.heap.size with hlt | hge
    · exact hlt
    · rw [Array.getElem?_eq_none hge] at hh; cases hh

theorem clone_any (A : Option Addr) (n c : Nat) (xs : List Int) (w : World) (h : RI w A n xs) (hn : n ≤ 1000000000) :
    Calls Try.prog 20 #[.slice A n c] w fun e w' => ∃ v, e = .returned v ∧ w'.ownsRow w.heap.size 3 1 v n (ints xs) ∧ Below w.heap.size w w' := by
  obtain ⟨i0, hi0, hz0, hz1, hz2⟩ := info_parts int_info
  cases A with
  | none =>
    have h0 : n = 0 := by
      rcases Nat.eq_zero_or_pos n with h0 | h0
      · exact h0
      · obtain ⟨ad, h', _⟩ := h.2 h0; cases h'
    subst h0
    have hx : xs = [] := List.eq_nil_of_length_eq_zero h.len
    subst hx
    refine (Try.slices_Clone_int_nil 0 c w).mono ?_
    rintro e w' ⟨rfl, rfl⟩
    exact ⟨_, rfl, ⟨by simp, .inl ⟨rfl, rfl⟩⟩, Below.refl _ _⟩
  | some ad =>
    have HR := Lib.hid h
    clear h
    have hq : ∀ w, (binOp .eql 22 (.slice (some ad) n c) (.slice none 0 0)).run Try.prog w = .ok (.bool false) w := fun w => Lib.run_eql_slice_nil w 22 3 (some ad) n c 0 0 Try.underlying22
    go_enter Try.func20, Try.ntmps20
    go_wp2_with (first
      | (at_builtin
         refine wpList_append_any _ rfl _ _ _ rfl w.heap.size 3 i0 _ 1 8 Try.underlying22 hi0 hz0 hz1 hz2 rfl (by omega) _ 0 [] rfl (owns_empty w 3 1) w.heap.size (some ad) n c (ints xs) rfl (Reads.below HR.out ((Below.refl _ _).alloc (Nat.le_refl _) _)) (ints_one _) (by simp only [maxLen]; omega) (by omega) (by simp) ?_
         intro v2 w2 hown2 hg2 hat2))
    go_ret
    rw [List.nil_append, Nat.zero_add] at hown2
    exact ⟨_, rfl, hown2, ((Below.refl _ _).alloc (Nat.le_refl _) _).grown hg2 ((Below.refl _ _).alloc (Nat.le_refl _) _).size (fun k hk => own_ge (owns_empty w 3 1) hk)⟩

/-- Numbers that rise. -/
def Rise (xs : List Int) : Prop := ∀ (p q : Nat) (u v : Int), p < q → xs[p]? = some u → xs[q]? = some v → u < v
/-- Where a number stands among numbers that rise. -/
def Stands (xs : List Int) (x : Int) (i : Nat) : Prop := (∀ (t : Nat) (u : Int), t < i → xs[t]? = some u → u < x) ∧ (∀ (t : Nat) (u : Int), i ≤ t → xs[t]? = some u → x ≤ u)
def Between (xs : List Int) (x : Int) (i j : Nat) : Prop := Rise xs → (∀ (t : Nat) (u : Int), t < i → xs[t]? = some u → u < x) ∧ (∀ (t : Nat) (u : Int), j ≤ t → xs[t]? = some u → x ≤ u)

def BsPost (xs : List Int) (x : Int) (n : Nat) (w : World) (e : Ending) (w' : World) : Prop :=
  ∃ i : Nat, e = .returned (.tuple #[.int .i64 i, .bool (xs[i]? == some x)]) ∧ i ≤ n ∧ (Rise xs → Stands xs x i) ∧ w = w'

theorem between_up {xs : List Int} {x y : Int} {i j m : Nat} (h : Between xs x i j) (hm : m < j) (hy : xs[m]? = some y) (hyx : y < x) : Between xs x (m + 1) j := by
  intro hr
  obtain ⟨h1, h2⟩ := h hr
  refine ⟨fun t u ht hu => ?_, h2⟩
  by_cases e : t = m
  · subst e; rw [hu] at hy; injection hy with hy; omega
  · have := hr t m u y (by omega) hu hy; omega
theorem between_down {xs : List Int} {x y : Int} {i j m : Nat} (h : Between xs x i j) (hm : i ≤ m) (hy : xs[m]? = some y) (hyx : x ≤ y) : Between xs x i m := by
  intro hr
  obtain ⟨h1, h2⟩ := h hr
  refine ⟨h1, fun t u ht hu => ?_⟩
  by_cases e : t = m
  · subst e; rw [hu] at hy; injection hy with hy; omega
  · have := hr m t y u (by omega) hy hu; omega

theorem bsearch_any (A : Option Addr) (n c : Nat) (xs : List Int) (x : Int) (w : World) (h : RI w A n xs) (hn : n ≤ 1000000000) :
    Calls Try.prog 21 #[.slice A n c, .int .i64 x] w (BsPost xs x n w) := by
  have HR := Lib.hid h
  clear h
  go_enter Try.func21, Try.ntmps21
  go_wp2
  go_loop [7, 8] (fun vi vj => ∃ i j : Nat, i ≤ j ∧ j ≤ n ∧ vi = .int .i64 i ∧ vj = .int .i64 j ∧ Hid (Between xs x i j)) (fun vi vj => (intOf vj - intOf vi).toNat)
  case atStart => exact ⟨0, n, by omega, by omega, rfl, rfl, Lib.hid (fun _ => ⟨fun t u ht _ => by omega, fun t u ht hu => by rw [List.getElem?_eq_none (by rw [HR.out.len]; exact ht)] at hu; cases hu⟩)⟩
  case round =>
    obtain ⟨i, j, hij, hjn, rfl, rfl, HB⟩ := hrel
    by_cases hlt : i < j
    · have hmid : i ≤ (i + j) / 2 ∧ (i + j) / 2 < j := by omega
      obtain ⟨ad, y, rfl, hb, hy, hc⟩ := HR.out.at_ (show (i + j) / 2 < n by omega)
      have HY := Lib.hid hy
      clear hy
      go_wp2_with fail
      refine (Try.cmp_Less_int2 y x _).mono ?_
      rintro e w1 ⟨rfl, rfl⟩
      by_cases hyx : y < x
      · go_wp2_with fail
        refine ⟨⟨(i + j) / 2 + 1, j, by omega, by omega, by go_num, rfl, Lib.hid (between_up HB.out (by omega) HY.out hyx)⟩, by simp [intOf]; omega⟩
      · go_wp2_with fail
        refine ⟨⟨i, (i + j) / 2, by omega, by omega, rfl, by go_num, Lib.hid (between_down HB.out (by omega) HY.out hyx)⟩, by simp [intOf]; omega⟩
    · obtain rfl : i = j := by omega
      by_cases hin : i < n
      · obtain ⟨ad, y, rfl, hb, hy, hc⟩ := HR.out.at_ hin
        have HY := Lib.hid hy
        clear hy
        cases hyx : (y == x) with
        | true =>
          go_wp2_with fail
          go_ret2
          exact ⟨i, by rw [HY.out]; simp [hyx] , hjn, HB.out, rfl⟩
        | false =>
          go_wp2_with fail
          refine (Try.slices_isNaN_int2 y _).mono ?_
          rintro e w1 ⟨rfl, rfl⟩
          go_wp2_with fail
          go_ret2
          exact ⟨i, by rw [HY.out]; simp [hyx], hjn, HB.out, rfl⟩
      · have HY := Lib.hid (show xs[i]? = none from List.getElem?_eq_none (by rw [HR.out.len]; omega))
        go_wp2_with fail
        go_ret2
        exact ⟨i, by rw [HY.out]; rfl, hjn, HB.out, rfl⟩

theorem rise_of_chk : ∀ (l : List Int) (la : Int), chkFrom la l = true → (∀ (p : Nat) u, l[p]? = some u → la < u ∧ 0 < u ∧ u < 256) ∧ Rise l
  | [], _, _ => ⟨fun p u h => by simp at h, fun p q u v _ h => by simp at h⟩
  | n :: l, la, h => by
    simp only [chkFrom, Bool.and_eq_true, decide_eq_true_eq] at h
    obtain ⟨⟨⟨h1, h2⟩, h3⟩, h4⟩ := h
    obtain ⟨i1, i2⟩ := rise_of_chk l n h4
    refine ⟨fun p u hu => ?_, fun p q u v hpq hu hv => ?_⟩
    · cases p with
      | zero => simp at hu; subst hu; exact ⟨h3, h1, h2⟩
      | succ p => have := i1 p u (by simpa using hu); omega
    · cases q with
      | zero => omega
      | succ q =>
        cases p with
        | zero => simp at hu; subst hu; exact (i1 q v (by simpa using hv)).1
        | succ p => exact i2 p q u v (by omega) (by simpa using hu) (by simpa using hv)

theorem RI.take {w : World} {A : Option Addr} {n : Nat} {xs : List Int} (h : RI w A n xs) {k : Nat} (hk : k ≤ n) : RI w A k (xs.take k) := by
  have hl := h.len
  refine ⟨by simp; omega, fun hn => ?_⟩
  obtain ⟨ad, e, hb, hc⟩ := h.2 (by omega)
  refine ⟨ad, e, hb, fun j u hj => hc j u ?_⟩
  rw [List.getElem?_map, List.getElem?_take] at hj
  rw [List.getElem?_map]
  split at hj
  · exact hj
  · simp at hj

theorem RI.drop {w : World} {A : Option Addr} {n c : Nat} {xs : List Int} (h : RI w A n xs) {k : Nat} (hk : k ≤ n) (hc : n ≤ c) : RI w (if c = k then A else A.map (·.add k)) (n - k) (xs.drop k) := by
  have := Reads.cut h hk hc
  rw [Nat.mul_one] at this
  unfold RI ints
  rw [List.map_drop]
  exact this

theorem RI.dropc {w : World} {ad : Addr} {n c : Nat} {xs : List Int} (h : RI w (some ad) n xs) {k : Nat} (hk : k ≤ n) (hc : n ≤ c) (ck : ¬ c = k) : RI w (some (ad.add k)) (n - k) (xs.drop k) := by
  have := RI.drop h hk hc
  rw [if_neg ck] at this
  exact this

theorem RI.drew {w : World} {A : Option Addr} {n : Nat} {xs : List Int} (h : RI w A n xs) : RI w.drew A n xs := h

/-! ### Take -/
def takeOf (xs : List Int) (n : Int) : List Int × List Int × Int :=
  if n < 0 then ([], xs, 1) else if chk xs = false then ([], xs, 1) else if (xs.length : Int) < n then ([], xs, 100) else (xs.take n.toNat, xs.drop n.toNat, 0)

/-- What is told: two slices that read so, and a number; nothing that was there has turned. -/
def Two (w : World) (r : List Int × List Int × Int) (e : Ending) (w' : World) : Prop :=
  ∃ A n c B m d, e = .returned (.tuple #[.slice A n c, .slice B m d, .int .i64 r.2.2]) ∧ n ≤ c ∧ m ≤ d ∧ RI w' A n r.1 ∧ RI w' B m r.2.1 ∧ Below w.heap.size w w'

theorem RI.nil (w : World) : RI w none 0 [] := Reads.none_

theorem RI.own {w : World} {A : Option Addr} {n c base : Nat} {xs : List Int} (h : w.ownsRow base 3 1 (.slice A n c) n (ints xs)) : RI w A n xs := Reads.of_own h

theorem take_any (A : Option Addr) (n c : Nat) (xs : List Int) (m : Int) (w : World) (h : RI w A n xs) (hn : n ≤ 1000000000) (hnc : n ≤ c) :
    Calls Try.prog 11 #[.slice A n c, .int .i64 m] w (Two w (takeOf xs m)) := by
  have HR := Lib.hid h
  have HL := Lib.hid h.len
  clear h
  by_cases h0 : m < 0
  · have HT := Lib.hid (show takeOf xs m = ([], xs, 1) from by simp [takeOf, h0])
    go_enter Try.func11, Try.ntmps11
    go_wp2
    go_ret3
    exact ⟨none, 0, 0, A, n, c, by rw [HT.out]; rfl, Nat.le_refl _, hnc, by rw [HT.out]; exact RI.nil _, by rw [HT.out]; exact HR.out, Below.refl _ _⟩
  · cases hc : chk xs with
    | false =>
      have HT := Lib.hid (show takeOf xs m = ([], xs, 1) from by simp [takeOf, h0, hc])
      go_enter Try.func11, Try.ntmps11
      go_wp2_with fail
      refine (check_any A n c xs _ HR.out hn).mono ?_
      rw [hc]
      rintro e w1 ⟨rfl, rfl⟩
      go_wp2
      go_ret3
      exact ⟨none, 0, 0, A, n, c, by rw [HT.out]; rfl, Nat.le_refl _, hnc, by rw [HT.out]; exact RI.nil _, by rw [HT.out]; exact HR.out, Below.refl _ _⟩
    | true =>
      by_cases h1 : (n : Int) < m
      · have HT := Lib.hid (show takeOf xs m = ([], xs, 100) from by simp [takeOf, h0, hc, HL.out, h1])
        go_enter Try.func11, Try.ntmps11
        go_wp2_with fail
        refine (check_any A n c xs _ HR.out hn).mono ?_
        rw [hc]
        rintro e w1 ⟨rfl, rfl⟩
        go_wp2
        go_ret3
        exact ⟨none, 0, 0, A, n, c, by rw [HT.out]; rfl, Nat.le_refl _, hnc, by rw [HT.out]; exact RI.nil _, by rw [HT.out]; exact HR.out, Below.refl _ _⟩
      · have HT := Lib.hid (show takeOf xs m = (xs.take m.toNat, xs.drop m.toNat, 0) from by simp [takeOf, h0, hc, HL.out, h1])
        obtain ⟨k, rfl⟩ := Int.eq_ofNat_of_zero_le (show 0 ≤ m by omega)
        have hk : k ≤ n := by omega
        have hk0 : (0 : Int) ≤ (k : Int) := Int.natCast_nonneg _
        have hk1 : (k : Int) ≤ (n : Int) := by omega
        have hk2 : (k : Int) ≤ (c : Int) := by omega
        have hk3 : (n : Int) ≤ (c : Int) := by omega
        have hk4 : k ≤ c := by omega
        have hri := HR.out
        cases A with
        | none =>
          have hn0 : n = 0 := by
            rcases Nat.eq_zero_or_pos n with h | h
            · exact h
            · obtain ⟨ad, h', _⟩ := hri.2 h; cases h'
          subst hn0
          obtain rfl : k = 0 := by omega
          have hx : xs = [] := List.eq_nil_of_length_eq_zero HL.out
          subst hx
          have hnil := fun (c : Nat) (w : World) => Try.slices_Clone_int_nil 0 c w
          have HN := Lib.hid hnil
          clear hnil
          go_enter Try.func11, Try.ntmps11
          go_wp2_with fail
          refine (check_any _ _ c _ _ hri hn).mono ?_
          rw [hc]
          rintro e w1 ⟨rfl, rfl⟩
          go_wp2_with fail
          go_region_with (first | (go_at_call 20; refine (HN.out _ _).mono ?_; rintro e w1 ⟨rfl, rfl⟩))
          all_goals (try go_wp2)
          all_goals go_ret3
          all_goals exact ⟨none, 0, 0, none, 0, 0, rfl, Nat.le_refl _, Nat.le_refl _, RI.nil _, RI.nil _, by first | exact Below.refl _ _ | exact (Below.refl _ _).drew⟩
        | some ad =>
          by_cases ck : c = k
          · obtain rfl : n = k := by omega
            subst ck
            go_enter Try.func11, Try.ntmps11
            go_wp2_with fail
            refine (check_any _ _ _ xs _ hri hn).mono ?_
            rw [hc]
            rintro e w1 ⟨rfl, rfl⟩
            go_wp2_with fail
            go_region_with (first
              | (go_at_call_of 20 (Value.slice (some ad) c c); refine (clone_any (some ad) c c (xs.take c) _ ?_ (by omega)).mono ?_; (refine RI.take ?_ hk; first | exact hri | exact hri.drew | exact RI.below hri hB2 | exact RI.below hri.drew hB2); rintro e w1 ⟨v1, rfl, ho1, hB1⟩)
              | (go_at_call 20; refine (Try.slices_Clone_int_zero ad 0 _).mono ?_; rintro e w2 ⟨v2, rfl, ho2, _, hB2⟩))
            go_wp2
            obtain ⟨A1, c1, rfl, hc1, hr1⟩ := own_cap ho1
            obtain ⟨A2, c2, rfl, hc2, hr2⟩ := own_cap (xs := []) ho2
            go_ret3
            exact ⟨A1, _, c1, A2, _, c2, by rw [HT.out]; rfl, hc1, hc2, by rw [HT.out]; exact hr1.below hB2, by rw [HT.out, Int.toNat_natCast, List.drop_eq_nil_of_le (by rw [HL.out]; omega)]; exact hr2, (Below.refl _ _).drew.trans ((hB1.next hB2).mono (Nat.le_refl _))⟩
          · go_enter Try.func11, Try.ntmps11
            go_wp2_with fail
            refine (check_any _ n c xs _ hri hn).mono ?_
            rw [hc]
            rintro e w1 ⟨rfl, rfl⟩
            go_wp2_with fail
            go_region_with (first
              | (go_at_call_of 20 (Value.slice (some ad) k c); refine (clone_any (some ad) k c (xs.take k) _ ?_ (by omega)).mono ?_; (refine RI.take ?_ hk; first | exact hri | exact hri.drew | exact RI.below hri hB2 | exact RI.below hri.drew hB2); rintro e w1 ⟨v1, rfl, ho1, hB1⟩)
              | (go_at_call_of 20 (Value.slice (some (ad.add k)) (n - k) (c - k)); refine (clone_any (some (ad.add k)) (n - k) (c - k) (xs.drop k) _ ?_ (by omega)).mono ?_; (refine RI.dropc ?_ hk hnc ck; first | exact hri | exact hri.drew | exact RI.below hri hB1 | exact RI.below hri.drew hB1); rintro e w2 ⟨v2, rfl, ho2, hB2⟩))
            go_wp2
            obtain ⟨A1, c1, rfl, hc1, hr1⟩ := own_cap ho1
            obtain ⟨A2, c2, rfl, hc2, hr2⟩ := own_cap ho2
            go_ret3
            exact ⟨A1, _, c1, A2, _, c2, by rw [HT.out]; rfl, hc1, hc2, by rw [HT.out]; exact hr1.below hB2, by rw [HT.out]; exact hr2, (Below.refl _ _).drew.trans ((hB1.next hB2).mono (Nat.le_refl _))⟩
end Go.Proofs.Ytjidfnogmedgnaa

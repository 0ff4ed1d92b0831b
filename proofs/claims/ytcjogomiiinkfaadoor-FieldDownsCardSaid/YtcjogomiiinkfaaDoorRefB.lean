import Derived.Test.YtcjogomiiinkfaaDoorRefA
namespace Go.Proofs.YtcjogomiiinkfaaDoor
open Go.Mini
open Go.Proofs.YtcjogomiiinkfaaDoor.Code
set_option linter.unusedVariables false
set_option linter.unusedSimpArgs false
set_option linter.ambiguousOpen false
attribute [local irreducible] mx ml mld mstep MCalls Ex.thn Ex.inb
variable {E : World → Prop}

structure RS (σ0 : H) (mid oid : Nat) (mv out : List Value) (τ : H) : Prop where
  ext : Ext σ0 τ
  out : τ.get oid = .cells 1 out
  map : τ.get mid = .cells 0 mv
  ho : σ0.size ≤ oid
theorem RS.set {σ0 τ τ' : H} {mid oid : Nat} {mv out out' : List Value} (h : RS σ0 mid oid mv out τ) (t : SetTo τ oid (.cells 1 out') τ') : RS σ0 mid oid mv out' τ' :=
  ⟨t.ext h.ext h.ho, t.self, t.cells h.map (fun e => by have := h.map; rw [e, h.out] at this; cases this), h.ho⟩
theorem opn_nat {S : ByteArray} {i : Nat} (hi : i < S.size) : ((((S.data.toList.getD i 0).toNat : Nat) : Int) != 35) = opn S i := by
  have := u8ne (S.data.toList.getD i 0) 35 (by omega)
  simp only [opn, bAt, Int.toNat_natCast]
  rw [decide_eq_true (show (0 : Int) ≤ (i : Int) by omega), decide_eq_true (show (i : Int) < (S.size : Int) by omega)]
  simpa using this

set_option maxHeartbeats 4000000 in
theorem rCosts_c (W Hh : Int) (S : ByteArray) (srcs : List Int) (step : Int) (sv : Value) (σ : H) (hr : Rd σ sv (ints srcs)) (hg : gr W Hh S = true) (h1 : 1 ≤ step) (h2 : step ≤ 100) (hl : srcs.length ≤ 1000) :
    MCalls E Tryd.prog 21 [mapV W Hh S, sv, .int .i64 step] σ (fun v τ => ∃ out, Cst W S srcs step out ∧ Out σ τ 1 v (ints out)) := by
  refine mcalls_of fn21 (by simp) ?_
  unfold c21 r21 mapV
  have hS := gr_size hg
  have hW := hS.1
  have hN := hS.2.2.2.1
  have hsz : (ints srcs).length = srcs.length := ints_len _
  refine stepR0 ?_
  refine ml_op Sd0 (o_mks1 Sd0 Sd0 (by omega) (by omega)) ?_
  refine stepR0 ?_
  generalize hτ : H.push (H.push _ _) _ = τ
  have gm : τ.get σ.size = .cells 0 (mapC W Hh S) := by rw [← hτ, H.get_push_ne (by simp), H.get_push_self]; rfl
  have go : τ.get (σ.size + 1) = .cells 1 (ints (List.replicate S.size 0)) := by rw [← hτ]; unfold ints; rw [List.map_replicate]; exact H.get_push_self (σ.push _) _
  have e1 : Ext σ τ := hτ ▸ (Ext.push _ _).trans (Ext.push _ _)
  have rs : RS σ σ.size (σ.size + 1) (mapC W Hh S) (ints (List.replicate S.size 0)) τ := ⟨e1, go, gm, by omega⟩
  clear hτ gm go e1
  generalize hmid : σ.size = mid at *
  generalize hoid : mid + 1 = oid at *
  refine mx_loop (fun n ts τ => ∃ (i : Nat) (out : List Int), n = S.size - i ∧ i ≤ S.size ∧ RS σ mid oid (mapC W Hh S) (ints out) τ ∧ out.length = S.size ∧ (∀ m : Nat, m < i → out.getD m 0 = if (m : Int) ∈ srcs ∧ opn S m = true then 0 else -1) ∧
    ts 1 = sv ∧ ts 2 = .int .i64 step ∧ ts 3 = .pointer (some ⟨mid, 0, none⟩) ∧ ts 7 = .int .i64 S.size ∧ ts 8 = .slice (some ⟨oid, 0, none⟩) S.size S.size ∧ ts 9 = .int .i64 ((i : Nat) : Int)) S.size ?_ ?_
  · exact ⟨0, _, rfl, Nat.zero_le _, rs, by simp, fun m hm => absurd hm (Nat.not_lt_zero _), Sd0, Sd0, Sd0, Sd0, Sd0, Sd0⟩
  clear rs
  rintro n ts τ ⟨i, out, rfl, hi, rs, hol, hini, t1, t2, t3, t7, t8, t9⟩
  rcases Nat.lt_or_ge i S.size with hlt | hge
  · have hopn := opn_nat hlt
    (have fx := And.intro t1 (And.intro t2 (And.intro t3 (And.intro t7 (And.intro t8 t9)))); refine stepR ?_; clear fx)
    refine ml_setI (off := i) (c := -1) Sd0 (have fx := t9; Sd) Sd0 rs.out (by omega) fun τ2 s2 => ?_
    have rs2 := rs.set s2
    have hol2 : (out.set i (-1)).length = S.size := by rw [List.length_set]; exact hol
    have hi2 : (out.set i (-1)).getD i 0 = -1 := by rw [getD_set _ _ _ _ _ (by omega), if_pos rfl]
    have hini2 : ∀ m : Nat, m < i → (out.set i (-1)).getD m 0 = if (m : Int) ∈ srcs ∧ opn S m = true then 0 else -1 := fun m hm => by
      rw [getD_set _ _ _ _ _ (by omega), if_neg (by omega)]; exact hini m hm
    generalize out.set i (-1) = out2 at rs2 hol2 hi2 hini2
    clear rs s2 hol hini
    refine stepR0 ?_
    refine mx_loop (fun n ts τ => ∃ (k : Nat) (out : List Int), n = srcs.length - k ∧ k ≤ srcs.length ∧ RS σ mid oid (mapC W Hh S) (ints out) τ ∧ out.length = S.size ∧ (∀ m : Nat, m < i → out.getD m 0 = if (m : Int) ∈ srcs ∧ opn S m = true then 0 else -1) ∧
      out.getD i 0 = (if (i : Int) ∈ srcs.take k ∧ opn S i = true then 0 else -1) ∧
      ts 1 = sv ∧ ts 2 = .int .i64 step ∧ ts 3 = .pointer (some ⟨mid, 0, none⟩) ∧ ts 7 = .int .i64 S.size ∧ ts 8 = .slice (some ⟨oid, 0, none⟩) S.size S.size ∧ ts 9 = .int .i64 ((i : Nat) : Int) ∧ ts 10 = .int .i64 ((k : Nat) : Int)) srcs.length ?_ ?_
    · exact ⟨0, out2, rfl, Nat.zero_le _, rs2, hol2, hini2, by rw [hi2]; simp, (have fx := t1; Sd), (have fx := t2; Sd), (have fx := t3; Sd), (have fx := t7; Sd), (have fx := t8; Sd), (have fx := t9; Sd), Sd0⟩
    clear rs2 hol2 hi2 hini2 t1 t2 t3 t7 t8 t9
    rintro n ts τ ⟨k, out, rfl, hk, rs, hol, hini, hik, t1, t2, t3, t7, t8, t9, t10⟩
    (have fx := And.intro t1 (And.intro t2 (And.intro t3 (And.intro t7 (And.intro t8 (And.intro t9 t10))))); refine stepR ?_; clear fx)
    refine ml_len Sd0 (hr.of_ext rs.ext) (have fx := t1; Sd) ?_
    rcases Nat.lt_or_ge k srcs.length with hlt2 | hge2
    · (have fx := And.intro hsz (And.intro t1 (And.intro t2 (And.intro t3 (And.intro t7 (And.intro t8 (And.intro t9 t10)))))); refine stepR ?_; clear fx)
      refine ml_getS (hr.of_ext rs.ext) (have fx := t1; Sd) (have fx := t10; Sd) (by omega) (by rw [Int.toNat_natCast]; exact ints_at hlt2) fun p => ?_
      have htk : srcs.take (k + 1) = srcs.take k ++ [srcs.getD k 0] := by
        rw [List.take_add_one, List.getElem?_eq_getElem hlt2, List.getD_eq_getElem?_getD, List.getElem?_eq_getElem hlt2]; rfl
      generalize srcs.getD k 0 = s at htk
      have hmap := rs.map
      have same : ∀ {P : Prop}, ¬ (s = (i : Int) ∧ opn S i = true) → out.getD i 0 = (if (i : Int) ∈ srcs.take (k + 1) ∧ opn S i = true then 0 else -1) := fun {P} hn => by
        rw [hik, htk]
        have : ((i : Int) ∈ srcs.take k ∧ opn S i = true) ↔ ((i : Int) ∈ srcs.take k ++ [s] ∧ opn S i = true) := by
          rw [List.mem_append, List.mem_singleton]
          constructor
          · exact fun h => ⟨.inl h.1, h.2⟩
          · rintro ⟨h | h, h2⟩
            · exact ⟨h, h2⟩
            · exact absurd ⟨h.symm, h2⟩ hn
        simp only [this]
      by_cases hs : s = (i : Int)
      · have hs' : (s == (i : Int)) = true := by simpa using hs
        (have fx := And.intro t9 (And.intro hs' (And.intro t3 hmap)); refine stepR ?_; clear fx)
        rcases Bool.eq_false_or_eq_true (opn S i) with hop | hop
        rotate_left
        · rw [hop] at hopn
          (have fx := And.intro hopn t10; refine stepR ?_; clear fx)
          refine ⟨_, ?_, k + 1, out, rfl, hlt2, rs, hol, hini, same (P := True) (fun h => by rw [h.2] at hop; cases hop), (have fx := t1; Sd), (have fx := t2; Sd), (have fx := t3; Sd), (have fx := t7; Sd), (have fx := t8; Sd), (have fx := t9; Sd), Sd0⟩
          omega
        · rw [hop] at hopn
          (have fx := And.intro hopn (And.intro t8 t9); refine stepR ?_; clear fx)
          refine ml_setI (off := i) (c := 0) Sd0 (have fx := t9; Sd) Sd0 rs.out (by omega) fun τ2 s2 => ?_
          (have fx := t10; refine stepR ?_; clear fx)
          refine ⟨_, ?_, k + 1, _, rfl, hlt2, rs.set s2, by rw [List.length_set]; exact hol, fun m hm => ?_, ?_, (have fx := t1; Sd), (have fx := t2; Sd), (have fx := t3; Sd), (have fx := t7; Sd), (have fx := t8; Sd), (have fx := t9; Sd), Sd0⟩
          · omega
          · rw [getD_set _ _ _ _ _ (by omega), if_neg (by omega)]; exact hini m hm
          · rw [getD_set _ _ _ _ _ (by omega), if_pos rfl, htk, hs, if_pos]; simp [hop]
      · have hs' : (s == (i : Int)) = false := by simpa using hs
        (have fx := And.intro t9 (And.intro hs' t10); refine stepR ?_; clear fx)
        refine ⟨_, ?_, k + 1, out, rfl, hlt2, rs, hol, hini, same (P := True) (fun h => hs h.1), (have fx := t1; Sd), (have fx := t2; Sd), (have fx := t3; Sd), (have fx := t7; Sd), (have fx := t8; Sd), (have fx := t9; Sd), Sd0⟩
        omega
    · have hkk : k = srcs.length := by omega
      subst hkk
      rw [List.take_length] at hik
      (have fx := And.intro hsz (And.intro t9 t10); refine stepR ?_; clear fx)
      refine ⟨_, ?_, i + 1, out, rfl, hlt, rs, hol, fun m hm => ?_, (have fx := t1; Sd), (have fx := t2; Sd), (have fx := t3; Sd), (have fx := t7; Sd), (have fx := t8; Sd), Sd0⟩
      · omega
      · by_cases hm2 : m < i
        · exact hini m hm2
        · have : m = i := by omega
          subst this; exact hik
  · have hii : i = S.size := by omega
    subst hii
    obtain ⟨hsnd, hcmp⟩ := Snd.start (W := W) h1 hol hini
    (have fx := And.intro t1 (And.intro t2 (And.intro t3 (And.intro t7 (And.intro t8 t9)))); refine stepR ?_; clear fx)
    refine mx_loop (fun n ts τ => ∃ (r : Nat) (out : List Int), n = S.size - r ∧ r ≤ S.size ∧ RS σ mid oid (mapC W Hh S) (ints out) τ ∧ Snd W S srcs step out ∧ Cmp W S srcs step r out ∧
      ts 2 = .int .i64 step ∧ ts 3 = .pointer (some ⟨mid, 0, none⟩) ∧ ts 7 = .int .i64 S.size ∧ ts 8 = .slice (some ⟨oid, 0, none⟩) S.size S.size ∧ ts 11 = .int .i64 ((r : Nat) : Int)) S.size ?_ ?_
    · exact ⟨0, out, rfl, Nat.zero_le _, rs, hsnd, hcmp, (have fx := t2; Sd), (have fx := t3; Sd), (have fx := t7; Sd), (have fx := t8; Sd), Sd0⟩
    clear rs hol t1 t2 t3 t7 t8 t9 hini hsnd hcmp hge hi out
    rintro n ts τ ⟨r, out, rfl, hrn, rs, hsnd, hcmp, t2, t3, t7, t8, t11⟩
    rcases Nat.lt_or_ge r S.size with hlt | hge
    · (have fx := And.intro t2 (And.intro t3 (And.intro t7 (And.intro t8 t11))); refine stepR ?_; clear fx)
      refine mx_loop (fun n ts τ => ∃ (i : Nat) (out : List Int), n = S.size - i ∧ i ≤ S.size ∧ RS σ mid oid (mapC W Hh S) (ints out) τ ∧ P1 W S srcs step r i out ∧
        ts 2 = .int .i64 step ∧ ts 3 = .pointer (some ⟨mid, 0, none⟩) ∧ ts 7 = .int .i64 S.size ∧ ts 8 = .slice (some ⟨oid, 0, none⟩) S.size S.size ∧ ts 11 = .int .i64 ((r : Nat) : Int) ∧ ts 12 = .int .i64 ((i : Nat) : Int)) S.size ?_ ?_
      · exact ⟨0, out, rfl, Nat.zero_le _, rs, P1.start hsnd hcmp, (have fx := t2; Sd), (have fx := t3; Sd), (have fx := t7; Sd), (have fx := t8; Sd), (have fx := t11; Sd), Sd0⟩
      clear rs t2 t3 t7 t8 t11 hsnd hcmp out
      rintro n ts τ ⟨i, out, rfl, hin, rs, hp1, t2, t3, t7, t8, t11, t12⟩
      rcases Nat.lt_or_ge i S.size with hilt | hige
      · have hopn := opn_nat hilt
        (have fx := And.intro t2 (And.intro t3 (And.intro t7 (And.intro t8 (And.intro t11 t12)))); refine stepR ?_; clear fx)
        refine mx_loop (fun n ts τ => ∃ (j : Nat) (out : List Int), n = S.size - j ∧ j ≤ S.size ∧ RS σ mid oid (mapC W Hh S) (ints out) τ ∧ P2 W S srcs step r i j out ∧ (opn S i = false → j = 0) ∧
          ts 2 = .int .i64 step ∧ ts 3 = .pointer (some ⟨mid, 0, none⟩) ∧ ts 7 = .int .i64 S.size ∧ ts 8 = .slice (some ⟨oid, 0, none⟩) S.size S.size ∧ ts 11 = .int .i64 ((r : Nat) : Int) ∧ ts 12 = .int .i64 ((i : Nat) : Int) ∧ ts 13 = .int .i64 ((j : Nat) : Int)) S.size ?_ ?_
        · exact ⟨0, out, rfl, Nat.zero_le _, rs, P2.start hp1, fun _ => rfl, (have fx := t2; Sd), (have fx := t3; Sd), (have fx := t7; Sd), (have fx := t8; Sd), (have fx := t11; Sd), (have fx := t12; Sd), Sd0⟩
        clear rs t2 t3 t7 t8 t11 t12 hp1 out
        rintro n ts τ ⟨j, out, rfl, hjn, rs, hp2, hj0, t2, t3, t7, t8, t11, t12, t13⟩
        have hmap := rs.map
        rcases Bool.eq_false_or_eq_true (opn S i) with hop | hop
        · rw [hop] at hopn
          rcases Nat.lt_or_ge j S.size with hjlt | hjge
          · have hjI : (j : Int) < (S.size : Int) := by omega
            (have fx := And.intro t3 (And.intro t7 (And.intro t12 (And.intro t13 (And.intro hmap (And.intro hopn hjI))))); refine stepR ?_; clear fx)
            refine mld_callW Sd0 (have fx := And.intro t12 t13; Sd) (rBeside_c W i j τ hW (by omega) (by omega)) ?_
            rintro _ τ ⟨rfl, rfl⟩
            have hlen := hp2.1.1.len
            have skip : ¬ (beside W i j = true ∧ 0 ≤ out.getD j 0 ∧ (out.getD i 0 < 0 ∨ out.getD j 0 + step < out.getD i 0)) → P2 W S srcs step r i (j + 1) out := P2.skip hW hp2 hop
            have hset := P2.set hW h1 hp2 hop hjlt
            have hbj := hp2.1.1.bnd j hjlt
            have hb64 : step * ((S.size - unf out : Nat) : Int) ≤ 100 * 64 := Int.mul_le_mul h2 (by omega) (by omega) (by omega)
            rcases Bool.eq_false_or_eq_true (beside W i j) with hb | hb
            rotate_left
            · (have fx := And.intro hb t13; refine stepR ?_; clear fx)
              exact ⟨_, by omega, j + 1, out, rfl, hjlt, rs, skip (fun h => nomatch hb.symm.trans h.1), (fun h => nomatch hop.symm.trans h), (have fx := t2; Sd), (have fx := t3; Sd), (have fx := t7; Sd), (have fx := t8; Sd), (have fx := t11; Sd), (have fx := t12; Sd), Sd0⟩
            have ho := rs.out
            (have fx := And.intro hb (And.intro t8 t13); refine stepR ?_; clear fx)
            refine mld_getI (off := j) (have fx := hb; Sd) (have fx := t13; Sd) ho (by omega) ?_
            by_cases hj1 : 0 ≤ out.getD j 0
            rotate_left
            · (have fx := And.intro hb (And.intro hj1 t13); refine stepR ?_; clear fx)
              exact ⟨_, by omega, j + 1, out, rfl, hjlt, rs, skip (fun h => hj1 h.2.1), (fun h => nomatch hop.symm.trans h), (have fx := t2; Sd), (have fx := t3; Sd), (have fx := t7; Sd), (have fx := t8; Sd), (have fx := t11; Sd), (have fx := t12; Sd), Sd0⟩
            (have fx := And.intro hb (And.intro hj1 (And.intro t8 t12)); refine stepR ?_; clear fx)
            refine mld_getI (off := i) (have fx := And.intro hb hj1; Sd) (have fx := t12; Sd) ho (by omega) ?_
            -- the store
            have fin : (out.getD i 0 < 0 ∨ out.getD j 0 + step < out.getD i 0) → ∀ {ts : Fr} {K : Fr → H → Prop}, (ts 2 = .int .i64 step ∧ ts 3 = .pointer (some ⟨mid, 0, none⟩) ∧ ts 7 = .int .i64 S.size ∧ ts 8 = .slice (some ⟨oid, 0, none⟩) S.size S.size) → ts 11 = .int .i64 ((r : Nat) : Int) → ts 12 = .int .i64 ((i : Nat) : Int) → ts 13 = .int .i64 ((j : Nat) : Int) → ts 103 = .slice (some ⟨oid, 0, none⟩) S.size S.size → ts 104 = .int .i64 ((i : Nat) : Int) → ts 107 = .pointer (some ⟨oid, j, none⟩) →
                (∀ ts τ' out', RS σ mid oid (mapC W Hh S) (ints out') τ' → P2 W S srcs step r i (j + 1) out' → (ts 2 = .int .i64 step ∧ ts 3 = .pointer (some ⟨mid, 0, none⟩) ∧ ts 7 = .int .i64 S.size ∧ ts 8 = .slice (some ⟨oid, 0, none⟩) S.size S.size) → ts 11 = .int .i64 ((r : Nat) : Int) → ts 12 = .int .i64 ((i : Nat) : Int) → ts 13 = .int .i64 ((j : Nat) : Int) → K ts τ') →
                ml E Tryd.prog [⟨some 108, .load1 (.t 107), none⟩, ⟨some 109, .mv (.t 2), none⟩, ⟨some 110, .bin .add (.t 108) (.t 109), none⟩, ⟨some 111, .iaS 1 (.t 103) (.t 104), none⟩, ⟨none, .store 1 (.t 111) (.t 110), none⟩] K ts τ := by
              rintro hc ts K ⟨t2, t3, t7, t8⟩ t11 t12 t13 t103 t104 t107 hK
              refine ml_getI (off := j) Sd0 (have fx := t107; Sd) ho (by omega) ?_
              (have fx := And.intro t2 (And.intro t103 t104); refine stepR ?_; clear fx)
              refine ml_setI (off := i) (c := out.getD j 0 + step) Sd0 (have fx := t12; Sd) Sd0 ho (by omega) fun τ2 s2 => ?_
              exact ml_nil (hK _ _ _ (rs.set s2) (hset hb hj1 hc) ⟨(have fx := t2; Sd), (have fx := t3; Sd), (have fx := t7; Sd), (have fx := t8; Sd)⟩ (have fx := t11; Sd) (have fx := t12; Sd) (have fx := t13; Sd))
            by_cases hi1 : out.getD i 0 < 0
            · (have fx := And.intro hb (And.intro hj1 (And.intro hi1 (And.intro t8 (And.intro t12 t13)))); refine stepR ?_; clear fx)
              refine fin (.inl hi1) ?_ ?_ ?_ ?_ ?_ ?_ ?_ ?_
              · exact ⟨(have fx := t2; Sd), (have fx := t3; Sd), (have fx := t7; Sd), (have fx := t8; Sd)⟩
              · exact (have fx := t11; Sd)
              · exact (have fx := t12; Sd)
              · exact (have fx := t13; Sd)
              · exact (have fx := t8; Sd)
              · exact (have fx := t12; Sd)
              · exact (have fx := t13; Sd)
              rintro ts τ' out' rs' hp' ⟨t2, t3, t7, t8⟩ t11 t12 t13
              (have fx := t13; refine stepR ?_; clear fx)
              exact ⟨_, by omega, j + 1, out', rfl, hjlt, rs', hp', (fun h => nomatch hop.symm.trans h), (have fx := t2; Sd), (have fx := t3; Sd), (have fx := t7; Sd), (have fx := t8; Sd), (have fx := t11; Sd), (have fx := t12; Sd), Sd0⟩
            (have fx := And.intro hb (And.intro hj1 (And.intro hi1 (And.intro t8 t13))); refine stepR ?_; clear fx)
            refine mld_getI (off := j) (have fx := And.intro hb (And.intro hj1 hi1); Sd) (have fx := t13; Sd) ho (by omega) ?_
            (have fx := And.intro hb (And.intro hj1 (And.intro hi1 (And.intro t2 (And.intro t8 t12)))); refine stepR ?_; clear fx)
            refine mld_getI (off := i) (have fx := And.intro hb (And.intro hj1 hi1); Sd) (have fx := t12; Sd) ho (by omega) ?_
            by_cases hi2 : out.getD j 0 + step < out.getD i 0
            · (have fx := And.intro hb (And.intro hj1 (And.intro hi1 (And.intro hi2 (And.intro t8 (And.intro t12 t13))))); refine stepR ?_; clear fx)
              refine fin (.inr hi2) ?_ ?_ ?_ ?_ ?_ ?_ ?_ ?_
              · exact ⟨(have fx := t2; Sd), (have fx := t3; Sd), (have fx := t7; Sd), (have fx := t8; Sd)⟩
              · exact (have fx := t11; Sd)
              · exact (have fx := t12; Sd)
              · exact (have fx := t13; Sd)
              · exact (have fx := t8; Sd)
              · exact (have fx := t12; Sd)
              · exact (have fx := t13; Sd)
              rintro ts τ' out' rs' hp' ⟨t2, t3, t7, t8⟩ t11 t12 t13
              (have fx := t13; refine stepR ?_; clear fx)
              exact ⟨_, by omega, j + 1, out', rfl, hjlt, rs', hp', (fun h => nomatch hop.symm.trans h), (have fx := t2; Sd), (have fx := t3; Sd), (have fx := t7; Sd), (have fx := t8; Sd), (have fx := t11; Sd), (have fx := t12; Sd), Sd0⟩
            · (have fx := And.intro hb (And.intro hj1 (And.intro hi1 (And.intro hi2 t13))); refine stepR ?_; clear fx)
              exact ⟨_, by omega, j + 1, out, rfl, hjlt, rs, skip (fun h => by rcases h.2.2 with h | h; exact hi1 h; exact hi2 h), (fun h => nomatch hop.symm.trans h), (have fx := t2; Sd), (have fx := t3; Sd), (have fx := t7; Sd), (have fx := t8; Sd), (have fx := t11; Sd), (have fx := t12; Sd), Sd0⟩
          · have : j = S.size := by omega
            subst this
            have hjI : ¬ (S.size : Int) < (S.size : Int) := by omega
            (have fx := And.intro t7 (And.intro t12 (And.intro t13 hjI)); refine stepR ?_; clear fx)
            exact ⟨_, by omega, i + 1, out, rfl, hilt, rs, P2.done hp2, (have fx := t2; Sd), (have fx := t3; Sd), (have fx := t7; Sd), (have fx := t8; Sd), (have fx := t11; Sd), Sd0⟩
        · rw [hop] at hopn
          have hj00 := hj0 hop
          have hjI : (j : Int) < (S.size : Int) := by omega
          (have fx := And.intro t3 (And.intro t7 (And.intro t12 (And.intro t13 (And.intro hmap (And.intro hopn hjI))))); refine stepR ?_; clear fx)
          exact ⟨_, by omega, i + 1, out, rfl, hilt, rs, P1.wall hp2.1 hop, (have fx := t2; Sd), (have fx := t3; Sd), (have fx := t7; Sd), (have fx := t8; Sd), (have fx := t11; Sd), Sd0⟩
      · have : i = S.size := by omega
        subst this
        obtain ⟨hs', hc'⟩ := P1.done hp1
        (have fx := And.intro t7 (And.intro t11 t12); refine stepR ?_; clear fx)
        exact ⟨_, by omega, r + 1, out, rfl, hlt, rs, hs', hc', (have fx := t2; Sd), (have fx := t3; Sd), (have fx := t7; Sd), (have fx := t8; Sd), Sd0⟩
    · have : r = S.size := by omega
      subst this
      (have fx := And.intro t7 (And.intro t8 t11); refine stepR ?_; clear fx)
      refine fin1 ?_
      simp only [go_sem, reduceIte, Nat.reduceEqDiff, reduceCtorEq, Nat.reduceAdd, Nat.reduceLeDiff, Int.reduceNeg, Int.reduceToNat, Int.reduceBEq, Int.reduceBNe, Int.reduceLT, Int.reduceLE, Int.reduceAdd, Int.reduceSub, t8]
      refine ⟨out, Cmp.all h1 hsnd hcmp, rs.ext, some oid, .full rs.out (by rw [ints_len, hsnd.len, Nat.mul_one]), fun id hid => ?_⟩
      cases hid; exact rs.ho
end Go.Proofs.YtcjogomiiinkfaaDoor

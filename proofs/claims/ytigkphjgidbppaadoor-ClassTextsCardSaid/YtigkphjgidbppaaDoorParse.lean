/- The program's (*class.reader).parse: the set of a text (written by wip/gen_parse.py). Conditions: the reader's map holds the names' numbers; the package's variables hold what they hold. -/
import Derived.Test.YtigkphjgidbppaaDoorPar
import Derived.Test.YtigkphjgidbppaaDoorScope
import Derived.Deep.LoopGhost
namespace Go.Proofs.YtigkphjgidbppaaDoor
open Go Go.RowKit


/-- the frame at the label none -/
def At0 (a : Act) : Prop := ∃ f : Nat → Value, a = { tmps := #[f 0, f 1, f 2, f 3, f 4, f 5, f 6, f 7, f 8, f 9, f 10, f 11, f 12, f 13, f 14, f 15, f 16, f 17, f 18, f 19, f 20, f 21, f 22, f 23, f 24, f 25, f 26, f 27, f 28, f 29, f 30, f 31, f 32, f 33, f 34, f 35, f 36, f 37, f 38, f 39, f 40, f 41, f 42, f 43, f 44, f 45, f 46, f 47, f 48, f 49, f 50, f 51, f 52, f 53, f 54, f 55, f 56, f 57, f 58, f 59, f 60, f 61, f 62, f 63, f 64, f 65, f 66, f 67, f 68, f 69, f 70, f 71, f 72, f 73, f 74, f 75, f 76, f 77, f 78, f 79, f 80, f 81, f 82, f 83, f 84, f 85, f 86, f 87, f 88, f 89, f 90, f 91, f 92, f 93, f 94, f 95, f 96, f 97, f 98, f 99, f 100, f 101], defers := [] }
/-- the frame at the label done -/
def At1 (g k : Nat) (nt : Bool) (a : Act) : Prop := ∃ f : Nat → Value, a = { tmps := #[.pointer (some ⟨g, 0, none⟩), f 1, f 2, f 3, f 4, f 5, .int .i64 (k : Int), f 7, f 8, f 9, f 10, f 11, f 12, .bool nt, f 14, f 15, f 16, f 17, f 18, f 19, f 20, f 21, f 22, f 23, f 24, f 25, f 26, f 27, f 28, f 29, f 30, f 31, f 32, f 33, f 34, f 35, f 36, f 37, f 38, f 39, f 40, f 41, f 42, f 43, f 44, f 45, f 46, f 47, f 48, f 49, f 50, f 51, f 52, f 53, f 54, f 55, f 56, f 57, f 58, f 59, f 60, f 61, f 62, f 63, f 64, f 65, f 66, f 67, f 68, f 69, f 70, f 71, f 72, f 73, f 74, f 75, f 76, f 77, f 78, f 79, f 80, f 81, f 82, f 83, f 84, f 85, f 86, f 87, f 88, f 89, f 90, f 91, f 92, f 93, f 94, f 95, f 96, f 97, f 98, f 99, f 100, f 101], defers := [] }
theorem at0_mk (u0 u1 u2 u3 u4 u5 u6 u7 u8 u9 u10 u11 u12 u13 u14 u15 u16 u17 u18 u19 u20 u21 u22 u23 u24 u25 u26 u27 u28 u29 u30 u31 u32 u33 u34 u35 u36 u37 u38 u39 u40 u41 u42 u43 u44 u45 u46 u47 u48 u49 u50 u51 u52 u53 u54 u55 u56 u57 u58 u59 u60 u61 u62 u63 u64 u65 u66 u67 u68 u69 u70 u71 u72 u73 u74 u75 u76 u77 u78 u79 u80 u81 u82 u83 u84 u85 u86 u87 u88 u89 u90 u91 u92 u93 u94 u95 u96 u97 u98 u99 u100 u101 : Value) : At0 { tmps := #[u0, u1, u2, u3, u4, u5, u6, u7, u8, u9, u10, u11, u12, u13, u14, u15, u16, u17, u18, u19, u20, u21, u22, u23, u24, u25, u26, u27, u28, u29, u30, u31, u32, u33, u34, u35, u36, u37, u38, u39, u40, u41, u42, u43, u44, u45, u46, u47, u48, u49, u50, u51, u52, u53, u54, u55, u56, u57, u58, u59, u60, u61, u62, u63, u64, u65, u66, u67, u68, u69, u70, u71, u72, u73, u74, u75, u76, u77, u78, u79, u80, u81, u82, u83, u84, u85, u86, u87, u88, u89, u90, u91, u92, u93, u94, u95, u96, u97, u98, u99, u100, u101], defers := [] } := ⟨fun i => [u0, u1, u2, u3, u4, u5, u6, u7, u8, u9, u10, u11, u12, u13, u14, u15, u16, u17, u18, u19, u20, u21, u22, u23, u24, u25, u26, u27, u28, u29, u30, u31, u32, u33, u34, u35, u36, u37, u38, u39, u40, u41, u42, u43, u44, u45, u46, u47, u48, u49, u50, u51, u52, u53, u54, u55, u56, u57, u58, u59, u60, u61, u62, u63, u64, u65, u66, u67, u68, u69, u70, u71, u72, u73, u74, u75, u76, u77, u78, u79, u80, u81, u82, u83, u84, u85, u86, u87, u88, u89, u90, u91, u92, u93, u94, u95, u96, u97, u98, u99, u100, u101].getD i undef, rfl⟩
theorem at1_mk (g k : Nat) (nt : Bool) (u1 u2 u3 u4 u5 u7 u8 u9 u10 u11 u12 u14 u15 u16 u17 u18 u19 u20 u21 u22 u23 u24 u25 u26 u27 u28 u29 u30 u31 u32 u33 u34 u35 u36 u37 u38 u39 u40 u41 u42 u43 u44 u45 u46 u47 u48 u49 u50 u51 u52 u53 u54 u55 u56 u57 u58 u59 u60 u61 u62 u63 u64 u65 u66 u67 u68 u69 u70 u71 u72 u73 u74 u75 u76 u77 u78 u79 u80 u81 u82 u83 u84 u85 u86 u87 u88 u89 u90 u91 u92 u93 u94 u95 u96 u97 u98 u99 u100 u101 : Value) : At1 g k nt { tmps := #[.pointer (some ⟨g, 0, none⟩), u1, u2, u3, u4, u5, .int .i64 (k : Int), u7, u8, u9, u10, u11, u12, .bool nt, u14, u15, u16, u17, u18, u19, u20, u21, u22, u23, u24, u25, u26, u27, u28, u29, u30, u31, u32, u33, u34, u35, u36, u37, u38, u39, u40, u41, u42, u43, u44, u45, u46, u47, u48, u49, u50, u51, u52, u53, u54, u55, u56, u57, u58, u59, u60, u61, u62, u63, u64, u65, u66, u67, u68, u69, u70, u71, u72, u73, u74, u75, u76, u77, u78, u79, u80, u81, u82, u83, u84, u85, u86, u87, u88, u89, u90, u91, u92, u93, u94, u95, u96, u97, u98, u99, u100, u101], defers := [] } := ⟨fun i => [undef, u1, u2, u3, u4, u5, undef, u7, u8, u9, u10, u11, u12, undef, u14, u15, u16, u17, u18, u19, u20, u21, u22, u23, u24, u25, u26, u27, u28, u29, u30, u31, u32, u33, u34, u35, u36, u37, u38, u39, u40, u41, u42, u43, u44, u45, u46, u47, u48, u49, u50, u51, u52, u53, u54, u55, u56, u57, u58, u59, u60, u61, u62, u63, u64, u65, u66, u67, u68, u69, u70, u71, u72, u73, u74, u75, u76, u77, u78, u79, u80, u81, u82, u83, u84, u85, u86, u87, u88, u89, u90, u91, u92, u93, u94, u95, u96, u97, u98, u99, u100, u101].getD i undef, rfl⟩

set_option maxRecDepth 100000 in
set_option maxHeartbeats 4000000 in
theorem parse_any (g b : Nat) (A : Option Addr) (len cap : Nat) (l : List ByteArray) (s : ByteArray) (B : Nat) (z : Value) (m : Int) (w : World) (hE : CEnv w B z m) (hB : B ≤ w.heap.size) (hg : Blk w g 68 #[.slice A len cap, .map (some b)])
    (hm : w.ownsMap (H := Unit) Tryd.prog 9 (plainElem Tryd.prog 3) b len (mapTo (upTo l l.length))) (hlen : len = l.length) (hn : namesB l = true) (hs : s.size ≤ 100000) :
    Calls Tryd.prog 35 #[.pointer (some ⟨g, 0, none⟩), .string s] w (Freed w (.tuple #[.int .i64 (parseB s l).1, errV z (parseB s l).2])) := by
  subst hlen
  obtain ⟨c0, c1⟩ := And.intro (hg.cell 0) (hg.cell 1)
  simp only [List.getElem?_toArray, List.getElem?_cons_zero, List.getElem?_cons_succ] at c0 c1
  have gl := hg.lt
  obtain ⟨-, hn2, hnd, -⟩ := (names_iff l).1 hn
  have hD := by_has l
  have hAt := by_at l hnd
  have HZ0 := hide (Tryd.zeroValue3)
  generalize mapTo (upTo l l.length) = D at *
  have HM := hide hm
  have HD := hide hD
  have HAT := hide hAt
  have HATC := hide (show ∀ (t : ByteArray) (c' : Int), D.atKey (.string t.data.toList) (.lit (.int .i64 0)) = .lit (.int .i64 c') → c' = (((numB l t).getD 0 : Nat) : Int) from fun t c' h => by
    have h9 := h.symm.trans (hAt t)
    simp only [DataW.lit.injEq, Lit.int.injEq, true_and] at h9
    exact h9)
  have HE := hide hE
  have HG := hide hg
  have hk1 : (0 : Int) ≤ (l.length : Int) := by omega
  have hk2 : (l.length : Int) ≤ 64 := by omega
  obtain ⟨hp1, hp2⟩ := pow_i64 hn2
  have HPW := hide (show ((2 ^ l.length - 1 : Nat) : Int) = (2 : Int) ^ l.length - 1 by
    have := Nat.two_pow_pos l.length
    have e : ((2 ^ l.length : Nat) : Int) = (2 : Int) ^ l.length := by simp
    omega)
  have hIN := inside_any s
  have hIS := inside_size s
  have hRS := rest_size s
  have HP1 := hide (fun h => parse_dot s l h)
  have HP2 := hide (fun c h hn => parse_name s l c h hn)
  have HP3 := hide (fun h hn hi => parse_out s l h hn hi)
  have HP4 := hide (fun h hn hi hs => parse_none s l h hn hi hs)
  have HP5 := hide (fun k h hn hi hs => parse_set s l k h hn hi hs)
  have HSS : Hid (setS l s = if restB s = ⟨#[]⟩ then some 0 else foldS l (splitT (restB s)) 0) := rfl
  have hCP : ∀ W, Calls Tryd.prog 44 #[.string (insideB s).1, .string ⟨#[94]⟩] W (fun e w' => e = .returned (.tuple #[.string (restB s), .bool (notS s)]) ∧ W = w') := fun W => (Tryd.strings_CutPrefix (insideB s).1 ⟨#[94]⟩ W).mono fun e w' h => ⟨h.1, h.2.symm⟩
  have HIN := hide (fun W => hIN W (by omega))
  have HCP := hide hCP
  have HNT := hide (fun (k : Nat) W => not_any (k : Int) (l.length : Int) W)
  have HSP := hide (fun W h => split_any (restB s) B z m W h (by omega))
  clear hIN hCP hD hAt hE hm hg hnd hn
  generalize hpb : parseB s l = pb at *
  clear hpb
  generalize notS s = nt at *
  generalize restB s = rs at *
  generalize (insideB s).1 = bd at *
  generalize (insideB s).2 = il at *
  have HKEY := hide (show ∀ t : ByteArray, t.size ≤ 100000 → keyOf Tryd.prog 9 (.string t) = some (.string t.data.toList) from fun t ht => by rw [keyOf_string Tryd.underlying9]; unfold mapKey; rw [Tryd.underlying9]; exact if_pos (Nat.le_trans ht (by decide)))
  go_enter Tryd.func35, Tryd.ntmps35
  go_wp2_with fail
  refine wp_scope_fwd (fun i a' w' => Below w.heap.size w w' ∧ ((i = 0 ∧ pb = (0, 70) ∧ At0 a') ∨ (i = 1 ∧ ∃ k : Nat, setS l s = some k ∧ k < 2 ^ 32 ∧ pb = (if nt = true then notB (k : Int) l.length else (k : Int), 0) ∧ At1 g k nt a'))) ?_ ?_
  · rintro i a' w' ⟨hb', (⟨rfl, hpv, hat0⟩ | ⟨rfl, k, hset, hk, hpv, hat1⟩)⟩
    · obtain ⟨f, rfl⟩ := hat0
      refine ⟨_, rfl, ?_⟩
      have hP := (HE.out.below (hb'.mono hB)).hP
      have HPV := hide hpv
      clear hpv HP1 HP2 HP3 HP4 HP5 HSS HSP HIN HCP HNT
      go_wp2_with fail
      go_quiet (fail)
      go_wp2_with fail
      go_ret2
      exact ⟨by rw [HPV.out]; rfl, below_drewN hb' _⟩
    · obtain ⟨f, rfl⟩ := hat1
      refine ⟨_, rfl, ?_⟩
      have d0 := (hb'.cell (p := ⟨g, 0, none⟩) gl).trans c0
      have HPV := hide hpv
      clear hpv hset HP1 HP2 HP3 HP4 HP5 HSS HSP HIN HCP
      cases nt with
      | true =>
        go_wp2_with fail
        refine (HNT.out k w').mono ?_
        rintro e w9 ⟨rfl, rfl⟩
        go_wp2_with fail
        go_ret2
        exact ⟨by rw [HPV.out]; rfl, hb'⟩
      | false =>
        go_wp2_with fail
        go_ret2
        exact ⟨by rw [HPV.out]; rfl, hb'⟩
  go_wp2_with fail
  go_quiet (fail)
  have bw0 := below_drewN (Below.refl w.heap.size w) nq
  have ca0 := (bw0.cell (p := ⟨g, 0, none⟩) gl).trans c0
  have ca1 := (bw0.cell (p := ⟨g, 1, none⟩) gl).trans c1
  generalize w.drewN nq = W0 at *
  go_wp2_with fail
  refine (HIN.out W0).mono ?_
  rintro e _ ⟨rfl, rfl⟩
  have HMW := hide (HM.out.kept (grown_of_below bw0 none) (by simp))
  have HKS := hide (HKEY.out s hs)
  go_wp2_with (at_lookup; (refine wpList_lookup_own_ok_int _ rfl _ _ 64 rfl 9 3 .i64 (Maps.string_keyed Tryd.underlying9) Tryd.underlying64 Tryd.underlying3 (HZ0.out _) b l.length D rfl HMW.out (.string s) (.string s.data.toList) rfl HKS.out ?_); intro c' hat hwc; rw [show Maps.has D (.string s.data.toList) = (numB l s).isSome from HD.out s]; obtain rfl := HATC.out s c' hat; clear hat hwc)
  refine (HCP.out W0).mono ?_
  rintro e _ ⟨rfl, rfl⟩
  by_cases hdot : s = ⟨#[46]⟩
  · have HPV := hide (HP1.out hdot)
    have e1 : (s.toList == [46]) = true := list_eq_true hdot
    have Hd := hide hdot
    clear HP1 HP2 HP3 HP4 HP5 hdot
    go_wp2_with fail
    all_goals
      go_ret2
      refine ⟨?_, bw0⟩
      rw [HPV.out]
      show _ = Ending.returned (.tuple #[.int .i64 ((2 ^ l.length - 1 : Nat) : Int), errV z 0])
      rw [HPW.out]
      rfl
  · have e1 : (s.toList == [46]) = false := list_eq_false hdot
    have Hd := hide hdot
    cases hnum : numB l s with
    | some c =>
      have HPV := hide (HP2.out c hdot hnum)
      obtain ⟨hc, -⟩ := num_some hnum
      have hc1 : (0 : Int) ≤ (c : Int) := by omega
      have hc2 : (c : Int) ≤ 64 := by omega
      obtain ⟨hq1, hq2⟩ := pow_i64 (k := c) (by omega)
      have HPC := hide (show ((2 ^ c : Nat) : Int) = (2 : Int) ^ c by simp)
      clear HP1 HP2 HP3 HP4 HP5 hnum hdot
      simp only [Option.isSome_some, Option.getD_some]
      go_wp2_with fail
      all_goals
        go_ret2
        refine ⟨?_, bw0⟩
        rw [HPV.out]
        show _ = Ending.returned (.tuple #[.int .i64 ((2 ^ c : Nat) : Int), errV z 0])
        rw [HPC.out]
        rfl
    | none =>
      simp only [Option.isSome_none, Option.getD_none]
      cases hil : il with
      | false =>
        have HPV := hide (HP3.out hdot hnum hil)
        clear HP1 HP2 HP3 HP4 HP5 hnum hdot
        subst hil
        go_wp2_with fail
        all_goals
          go_step3
          exact ⟨bw0, .inl ⟨rfl, HPV.out, by apply at0_mk⟩⟩
      | true =>
        have H4 := hide (HP4.out hdot hnum hil)
        have H5 := hide (fun k => HP5.out k hdot hnum hil)
        clear HP1 HP2 HP3 HP4 HP5 hnum hdot
        subst hil
        by_cases hrs : rs = ⟨#[]⟩
        · have e2 : (rs.toList == []) = true := list_eq_true hrs
          have HS := hide (HSS.out.trans (if_pos hrs))
          have Hr := hide hrs
          clear hrs
          go_wp2_with fail
          all_goals
            go_step3
            exact ⟨bw0, .inr ⟨rfl, 0, HS.out, by decide, H5.out 0 HS.out, by apply at1_mk g 0⟩⟩
        · have e2 : (rs.toList == []) = false := list_eq_false hrs
          have HS := hide (HSS.out.trans (if_neg hrs))
          have Hr := hide hrs
          clear hrs HSS
          go_wp2_with fail
          refine (HSP.out W0 (HE.out.below (bw0.mono hB))).mono ?_
          rintro e W1 ⟨rfl, hr1, hb1⟩
          have bw1 := bw0.trans (hb1.mono bw0.size)
          have hts : ∀ t ∈ splitT rs, t.size ≤ 100000 := fun t ht => by
            have := splitT_pieces _ _ rs t ht
            omega
          have cb0 := (bw1.cell (p := ⟨g, 0, none⟩) gl).trans c0
          have cb1 := (bw1.cell (p := ⟨g, 1, none⟩) gl).trans c1
          have HM1 := hide (HM.out.kept (grown_of_below bw1 none) (by simp))
          have HR1 := hide hr1
          have HTS := hide hts
          have hln := hr1.2.1
          generalize splitT rs = ts at *
          clear hr1 hts HSP
          go_wp2_with fail
          obtain ⟨F, hF⟩ : ∃ F : Option Nat, F = foldS l ts 0 := ⟨_, rfl⟩
          have HF := hide hF
          rw [← hF] at HS
          clear hF
          go_loopw [6, 63] (fun st i wr => ∃ (j k : Nat), j ≤ ts.length ∧ i = .int .i64 (j : Int) ∧ st = .int .i64 (k : Int) ∧ k < 2 ^ 32 ∧ foldS l (ts.drop j) k = F ∧ wr = W1) (fun _ i _ => ts.length - (intOf i).toNat)
          case atStart => exact ⟨0, 0, Nat.zero_le _, rfl, rfl, by decide, HF.out.symm, rfl⟩
          case round =>
            obtain ⟨j, k, hj, rfl, rfl, hk, hf, rfl⟩ := hrel
            by_cases hlt : j < ts.length
            · obtain ⟨bb, oo, ee, -, ck⟩ := HR1.out.str hlt
              injection ee with ee
              injection ee with ee1 ee2
              subst ee1 ee2
              rw [Nat.zero_add] at ck
              have HB := hide (fun hn => (fold_bad (l := l) (k := k) hlt hn).symm.trans hf)
              have HH := hide (fun c hn hb => (fold_hit (l := l) (k := k) (c := c) hlt hn hb).symm.trans hf)
              have HGO := hide (fun c hn hb => (fold_go (l := l) (k := k) (c := c) hlt hn hb).symm.trans hf)
              have HKT := hide (HKEY.out ts[j] (HTS.out _ (List.getElem_mem hlt)))
              generalize ts[j] = t at *
              clear hf
              cases hnt : numB l t with
              | none =>
                have HFN := hide (HB.out hnt)
                have HDT := hide (show Maps.has D (.string t.data.toList) = false by rw [show Maps.has D (.string t.data.toList) = (numB l t).isSome from HD.out t, hnt]; rfl)
                have HAC := hide (fun c' h => (HATC.out t c' h).trans (show (((numB l t).getD 0 : Nat) : Int) = 0 by rw [hnt]; rfl))
                clear hnt HB HH HGO
                go_wp2_with (at_lookup; (refine wpList_lookup_own_ok_int _ rfl _ _ 64 rfl 9 3 .i64 (Maps.string_keyed Tryd.underlying9) Tryd.underlying64 Tryd.underlying3 (HZ0.out _) b l.length D rfl HM1.out (.string t) (.string t.data.toList) rfl HKT.out ?_); intro c' hat hwc; rw [HDT.out]; obtain rfl := HAC.out c' hat; clear hat hwc)
                all_goals
                  go_step3
                  exact ⟨bw1, .inl ⟨rfl, H4.out (HS.out.trans HFN.out.symm), by apply at0_mk⟩⟩
              | some c =>
                obtain ⟨hc, -⟩ := num_some hnt
                have hhas := has_any (k : Int) (c : Int) wr
                rw [has_of hk (by omega)] at hhas
                have HDT := hide (show Maps.has D (.string t.data.toList) = true by rw [show Maps.has D (.string t.data.toList) = (numB l t).isSome from HD.out t, hnt]; rfl)
                have HAC := hide (fun c' h => (HATC.out t c' h).trans (show (((numB l t).getD 0 : Nat) : Int) = (c : Int) by rw [hnt]; rfl))
                cases hb : k.testBit c with
                | true =>
                  rw [hb] at hhas
                  have HFN := hide (HH.out c hnt hb)
                  have HHAS := hide hhas
                  clear hnt HB HH HGO hb hhas
                  go_wp2_with (at_lookup; (refine wpList_lookup_own_ok_int _ rfl _ _ 64 rfl 9 3 .i64 (Maps.string_keyed Tryd.underlying9) Tryd.underlying64 Tryd.underlying3 (HZ0.out _) b l.length D rfl HM1.out (.string t) (.string t.data.toList) rfl HKT.out ?_); intro c' hat hwc; rw [HDT.out]; obtain rfl := HAC.out c' hat; clear hat hwc)
                  refine HHAS.out.mono ?_
                  rintro e w9 ⟨rfl, rfl⟩
                  go_wp2_with fail
                  all_goals
                    go_step3
                    exact ⟨bw1, .inl ⟨rfl, H4.out (HS.out.trans HFN.out.symm), by apply at0_mk⟩⟩
                | false =>
                  rw [hb] at hhas
                  have HFN := hide (HGO.out c hnt hb)
                  have HHAS := hide hhas
                  have hc1 : (0 : Int) ≤ (c : Int) := by omega
                  have hc2 : (c : Int) ≤ 64 := by omega
                  obtain ⟨hq1, hq2⟩ := pow_i64 (k := c) (by omega)
                  have hk2 : k ||| 2 ^ c < 2 ^ 32 := Nat.or_lt_two_pow hk (Nat.pow_lt_pow_right (by omega) (by omega))
                  have hx := i64_or_nat k (2 ^ c) (by omega) (by have := pow_le32 (k := c) (by omega); omega)
                  rw [show ((2 ^ c : Nat) : Int) = (2 : Int) ^ c by simp] at hx
                  have HX := hide hx
                  have HK2 := hide hk2
                  clear hnt HB HH HGO hb hx hhas hk2 hk
                  go_wp2_with (at_lookup; (refine wpList_lookup_own_ok_int _ rfl _ _ 64 rfl 9 3 .i64 (Maps.string_keyed Tryd.underlying9) Tryd.underlying64 Tryd.underlying3 (HZ0.out _) b l.length D rfl HM1.out (.string t) (.string t.data.toList) rfl HKT.out ?_); intro c' hat hwc; rw [HDT.out]; obtain rfl := HAC.out c' hat; clear hat hwc)
                  refine HHAS.out.mono ?_
                  rintro e w9 ⟨rfl, rfl⟩
                  go_wp2_with fail
                  go_roundw
                  case rel => exact ⟨j + 1, k ||| 2 ^ c, by omega, by simp, by rw [HX.out], HK2.out, HFN.out, trivial⟩
                  case measure => simp [intOf]; omega
            · obtain rfl : j = ts.length := by omega
              have hff : F = some k := by
                rw [← hf, List.drop_length]
                rfl
              have HP := hide (H5.out k (HS.out.trans hff))
              clear hf hff
              go_wp2_with fail
              go_step3
              cases nt with
              | true =>
                go_wp2_with fail
                refine (HNT.out k wr).mono ?_
                rintro e w9 ⟨rfl, rfl⟩
                go_wp2_with fail
                all_goals
                  go_ret2
                  exact ⟨by rw [HP.out]; rfl, bw1⟩
              | false =>
                go_wp2_with fail
                all_goals
                  go_ret2
                  exact ⟨by rw [HP.out]; rfl, bw1⟩
end Go.Proofs.YtigkphjgidbppaaDoor

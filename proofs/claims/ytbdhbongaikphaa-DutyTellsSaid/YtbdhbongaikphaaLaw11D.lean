/- The walk of the law DutyTells. -/
import Derived.Test.YtbdhbongaikphaaDutyG
import Derived.Test.YtbdhbongaikphaaLnI
namespace Go.Proofs.Ytbdhbongaikphaa.BK
open Go.RowKit Go.Proofs.Ytbdhbongaikphaa.Cents Go.Proofs.Ytbdhbongaikphaa.DU Go.Proofs.Ytbdhbongaikphaa.Exact
set_option linter.unusedVariables false
set_option linter.unusedSimpArgs false

theorem rfind_any (S : Nat → Prop) (its : List It) (A : Option Addr) (ls : List Ln) (c b : Nat) (day : Int) (w : World) (hE : newE its = 0) (hI : ∀ x ∈ its, ItI x) (h : RbW S b its [] w) (hr : Row w 0 A (lcells ls)) (hl : ls.length ≤ 1000000) (hu : ∀ i, i < ls.length → I64 (lnAt ls i).units) :
    Calls Try.prog 12 #[.pointer (some ⟨b, 0, none⟩), .slice A ls.length c, .int .i64 day] w (FRet its (rows0 its) day ls w) := by
  by_cases hno : day < 0 ∨ checkE its.length ls ≠ 0
  · exact rfind_no S its (rows0 its) A ls c b day w h hr hl hno
  · have hd : ¬ day < 0 := fun c => hno (.inl c)
    have hc : checkE its.length ls = 0 := Classical.byContradiction fun c => hno (.inr c)
    have hm := (check_all hc).2.2
    exact rfind_go S its A ls c b day w h (new_BkOk hE hI) hr hd hc hu (fun i hi => (alone0 hE (hm i hi) hd).2.1) (fun i hi => (alone0 hE (hm i hi) hd).2.2)
theorem find_small (its : List It) (R : List PRow) (day : Int) (ls : List Ln) : (findL its R day ls).length ≤ ls.length ∧ ∀ x ∈ findL its R day ls, x.ls.length ≤ ls.length := by
  unfold findL
  by_cases h : findE its R day ls = 0
  · rw [if_pos h]
    refine ⟨by rw [dus_len]; exact firsts_len _ _, fun x hx => ?_⟩
    obtain ⟨i, _, _, rfl⟩ := dus_mem hx
    rw [duAt_ls]
    exact grp_len _ _ _
  · rw [if_neg h]
    exact ⟨Nat.zero_le _, fun x hx => by cases hx⟩
set_option maxHeartbeats 1000000 in
set_option maxRecDepth 100000 in
theorem tells_large (A B : Option Addr) (n m c d : Nat) (day : Int) (w : World) (h : 50 < n ∨ 30 < m) :
    Calls Try.prog 3 #[.slice A n c, .slice B m d, .int .i64 day] w fun e w' => e = .returned (.bool true) ∧ Below w.heap.size w w' := by
  by_cases h1 : 50 < n
  · have h2 : (50 : Int) < (n : Int) := by omega
    clear h
    go_enter Try.func3, Try.ntmps3
    go_wp2_with fail
    refine (awake11 _).mono ?_
    rintro e w1 ⟨rfl, hb⟩
    have HB := Lib.hid hb
    clear hb
    go_wp2_with fail
    go_ret
    exact ⟨rfl, HB.out⟩
  · have h2 : ¬ (50 : Int) < (n : Int) := by omega
    have h3 : (30 : Int) < (m : Int) := by omega
    clear h
    go_enter Try.func3, Try.ntmps3
    go_wp2_with fail
    refine (awake11 _).mono ?_
    rintro e w1 ⟨rfl, hb⟩
    have HB := Lib.hid hb
    clear hb
    go_wp2_with fail
    go_ret
    exact ⟨rfl, HB.out⟩
set_option maxHeartbeats 1000000 in
set_option maxRecDepth 100000 in
theorem tells_nobook (A B : Option Addr) (its : List It) (ls : List Ln) (c d : Nat) (day : Int) (w : World) (hr : Row w 0 A (icells its)) (hrl : Row w 0 B (lcells ls)) (h50 : ¬ 50 < its.length) (h30 : ¬ 30 < ls.length) (hE : newE its ≠ 0) (hI : ∀ i, i < ls.length → I64 (lnAt ls i).charge) :
    Calls Try.prog 3 #[.slice A its.length c, .slice B ls.length d, .int .i64 day] w fun e w' => e = .returned (.bool true) ∧ Below w.heap.size w w' := by
  have HN := Lib.hid (fun w1 (h : Row w1 0 A (icells its)) => new_bad A its c w1 h (by omega) _ rfl hE)
  have HRN := Lib.hid (fun w1 (h : Row w1 0 A (icells its)) => (rnew_any A its c w1 h (by omega)).mono (fun e w' (h : RNewAny its w1 e w') => (show e = .returned (.tuple #[.pointer none, .int .i64 (newE its)]) ∧ Below w1.heap.size w1 w' from by
    rcases h with ⟨h0, _⟩ | ⟨_, h1⟩
    · exact absurd h0 hE
    · exact h1)))
  have HC := Lib.hid (fun w1 (h : Row w1 0 B (lcells ls)) => charge_any B ls d w1 h (by omega) hI)
  have HRC := Lib.hid (fun w1 (h : Row w1 0 B (lcells ls)) => rcharge_any B ls d w1 h (by omega) hI _ _ ⟨rfl, rfl⟩)
  have HR := Lib.hid hr
  have HR2 := Lib.hid hrl
  obtain ⟨E, hEE⟩ : ∃ E, newE its = E := ⟨_, rfl⟩
  rw [hEE] at HN HRN
  unfold sumT at HC
  generalize sumN (chL ls ls.length).sum = u at *
  generalize sumE (chL ls ls.length).sum = v at *
  generalize its.length = n at *
  generalize ls.length = m at *
  have h2 : ¬ (50 : Int) < (n : Int) := by omega
  have h3 : ¬ (30 : Int) < (m : Int) := by omega
  clear hE hr hrl hEE hI
  go_enter Try.func3, Try.ntmps3
  go_wp2_with fail
  refine (awake11 _).mono ?_
  rintro e w1 ⟨rfl, hb⟩
  have HB := Lib.hid hb
  clear hb
  go_wp2_with fail
  refine (HN.out _ (HR.out.below HB.out)).mono ?_
  rintro e w3 ⟨rfl, hb⟩
  have HB := Lib.hid (HB.out.trans (hb.mono HB.out.size))
  clear hb
  go_wp2_with fail
  refine (HRN.out _ (HR.out.below HB.out)).mono ?_
  rintro e w4 ⟨rfl, hb⟩
  have HB := Lib.hid (HB.out.trans (hb.mono HB.out.size))
  clear hb
  go_wp2_with fail
  refine (HC.out _ (HR2.out.below HB.out)).mono ?_
  rintro e w5 ⟨rfl, hb⟩
  have HB := Lib.hid (HB.out.trans (hb.mono HB.out.size))
  clear hb
  go_wp2_with fail
  refine (HRC.out _ (HR2.out.below HB.out)).mono ?_
  rintro e w6 ⟨rfl, hb⟩
  have HB := Lib.hid (HB.out.trans (hb.mono HB.out.size))
  clear hb
  go_wp2_with fail
  go_ret
  exact ⟨rfl, HB.out⟩
set_option maxHeartbeats 2000000 in
set_option maxRecDepth 100000 in
theorem tells_go (A B : Option Addr) (its : List It) (ls : List Ln) (c d : Nat) (day : Int) (w : World) (hr : Row w 0 A (icells its)) (hrl : Row w 0 B (lcells ls)) (h50 : ¬ 50 < its.length) (h30 : ¬ 30 < ls.length) (hE : newE its = 0) (hIt : ∀ x ∈ its, ItI x) (hI : ∀ i, i < ls.length → I64 (lnAt ls i).charge) (hu : ∀ i, i < ls.length → I64 (lnAt ls i).units) :
    Calls Try.prog 3 #[.slice A its.length c, .slice B ls.length d, .int .i64 day] w fun e w' => e = .returned (.bool true) ∧ Below w.heap.size w w' := by
  have HN := Lib.hid (fun w1 (h : Row w1 0 A (icells its)) => new_ok A its c w1 h hE)
  have HRN := Lib.hid (fun w1 (h : Row w1 0 A (icells its)) => (rnew_any A its c w1 h (by omega)).mono (fun e w' (h : RNewAny its w1 e w') => (show ∃ S b, e = .returned (.tuple #[.pointer (some ⟨b, 0, none⟩), .int .i64 0]) ∧ RbW S b its [] w' ∧ Below w1.heap.size w1 w' from by
    rcases h with ⟨_, S, b, h1, h2, h3, _⟩ | ⟨h0, _⟩
    · exact ⟨S, b, h1, h2, h3⟩
    · exact absurd hE h0)))
  have HC := Lib.hid (fun w1 (h : Row w1 0 B (lcells ls)) => charge_any B ls d w1 h (by omega) hI)
  have HRC := Lib.hid (fun w1 (h : Row w1 0 B (lcells ls)) => rcharge_any B ls d w1 h (by omega) hI _ _ ⟨rfl, rfl⟩)
  have HFI := Lib.hid (fun S b w1 hbk (hr : Row w1 0 B (lcells ls)) => dfind_any S its B ls d b day w1 hE hIt hbk hr (by omega) hu)
  have HRF := Lib.hid (fun S b w1 hbk (hr : Row w1 0 B (lcells ls)) => rfind_any S its B ls d b day w1 hE hIt hbk hr (by omega) hu)
  have HSM := Lib.hid (find_small its (rows0 its) day ls)
  have HR := Lib.hid hr
  have HR2 := Lib.hid hrl
  unfold sumT at HC
  unfold FRet at HFI HRF
  generalize findE its (rows0 its) day ls = E at *
  generalize findL its (rows0 its) day ls = X at *
  generalize sumN (chL ls ls.length).sum = u at *
  generalize sumE (chL ls ls.length).sum = v at *
  generalize its.length = n at *
  generalize ls.length = m at *
  have h2 : ¬ (50 : Int) < (n : Int) := by omega
  have h3 : ¬ (30 : Int) < (m : Int) := by omega
  have H3 := Lib.hid h30
  clear hE hr hrl hI hu hIt
  go_enter Try.func3, Try.ntmps3
  go_wp2_with fail
  refine (awake11 _).mono ?_
  rintro e w1 ⟨rfl, hb⟩
  have HB := Lib.hid hb
  clear hb
  go_wp2_with fail
  refine (HN.out _ (HR.out.below HB.out)).mono ?_
  rintro e w3 ⟨S, b, rfl, hbk, hb, _⟩
  have HB := Lib.hid (HB.out.trans (hb.mono HB.out.size))
  have HBK := Lib.hid hbk
  clear hb hbk
  go_wp2_with fail
  refine (HRN.out _ (HR.out.below HB.out)).mono ?_
  rintro e w4 ⟨S2, b2, rfl, hrb, hb⟩
  have HB := Lib.hid (HB.out.trans (hb.mono HB.out.size))
  have HBK := Lib.hid (HBK.out.later hb)
  have HRB := Lib.hid hrb
  clear hb hrb
  go_wp2_with fail
  refine (HC.out _ (HR2.out.below HB.out)).mono ?_
  rintro e w5 ⟨rfl, hb⟩
  have HB := Lib.hid (HB.out.trans (hb.mono HB.out.size))
  have HBK := Lib.hid (HBK.out.later hb)
  have HRB := Lib.hid (HRB.out.later hb)
  clear hb
  go_wp2_with fail
  refine (HRC.out _ (HR2.out.below HB.out)).mono ?_
  rintro e w6 ⟨rfl, hb⟩
  have HB := Lib.hid (HB.out.trans (hb.mono HB.out.size))
  have HBK := Lib.hid (HBK.out.later hb)
  have HRB := Lib.hid (HRB.out.later hb)
  clear hb
  go_wp2_with fail
  refine (HFI.out S b w6 HBK.out (HR2.out.below HB.out)).mono ?_
  rintro e w7 ⟨v1, xs, rfl, hd, hx, hb⟩
  have HB := Lib.hid (HB.out.trans (hb.mono HB.out.size))
  have HRB := Lib.hid (HRB.out.later hb)
  obtain ⟨AD, cD, rfl, _⟩ := hd.sl
  have HX := Lib.hid hx
  have HDX := Lib.hid (hd.read rfl)
  clear hb hd hx HBK
  go_wp2_with fail
  refine (HRF.out S2 b2 w7 HRB.out (HR2.out.below HB.out)).mono ?_
  rintro e w8 ⟨v2, ys, rfl, hd, hy, hb⟩
  have HB := Lib.hid (HB.out.trans (hb.mono HB.out.size))
  obtain ⟨AE, cE, rfl, _⟩ := hd.sl
  have hlen : ys.length = xs.length := by
    have h1 := congrArg List.length HX.out
    have h4 := congrArg List.length hy
    rw [List.length_map] at h1 h4
    omega
  rw [hlen]
  have hsm := HSM.out
  have h3 := H3.out
  have HS := Lib.hid (same_same (n := xs.length) cD cE (HDX.out.below hb) (hd.read rfl) (by rw [HX.out, hy]) rfl (by have h1 := congrArg List.length HX.out; rw [List.length_map] at h1; omega) (fun x hx => by
    have := hsm.2 x.d (by rw [← HX.out]; exact List.mem_map.2 ⟨x, hx, rfl⟩)
    omega))
  generalize xs.length = N at *
  clear hb hd hy hlen hsm h3 HRB
  go_wp2_with fail
  refine HS.out.mono ?_
  rintro e w9 ⟨rfl, hb⟩
  have HB := Lib.hid (HB.out.trans (hb.mono HB.out.size))
  clear hb
  go_wp2_with fail
  go_ret
  exact ⟨rfl, HB.out⟩
theorem tells_walk (A : Option Addr) (its : List It) (c : Nat) (B : Option Addr) (ls : List Ln) (d : Nat) (day : Int) (w : World) (hI : ∀ x ∈ its, ItI x) (hr : Row w 0 A (icells its)) (hs1 : its.length * 32 ≤ 140737488351232) (hlI : ∀ x ∈ ls, LnI x) (hrl : Row w 0 B (lcells ls)) (hs2 : ls.length * 40 ≤ 140737488351232) (hday : I64 day) :
    Calls Try.prog 3 #[.slice A its.length c, .slice B ls.length d, .int .i64 day] w fun e w' => e = .returned (.bool true) ∧ Below w.heap.size w w' := by
  by_cases h50 : 50 < its.length
  · exact tells_large A B _ _ c d day w (.inl h50)
  · by_cases h30 : 30 < ls.length
    · exact tells_large A B _ _ c d day w (.inr h30)
    · by_cases hE : newE its = 0
      · exact tells_go A B its ls c d day w hr hrl h50 h30 hE hI (fun i hi => (hlI _ (lnAt_mem hi)).2.2.1) (fun i hi => (hlI _ (lnAt_mem hi)).2.1)
      · exact tells_nobook A B its ls c d day w hr hrl h50 h30 hE (fun i hi => (hlI _ (lnAt_mem hi)).2.2.1)
end Go.Proofs.Ytbdhbongaikphaa.BK

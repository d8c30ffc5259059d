/- awake of the store's statements. -/
import Derived.Test.YtdapcahphaldjaaStoreL2
namespace Go.Proofs.Ytdapcahphaldjaa.Store
open Go.RowKit
set_option linter.unusedVariables false
set_option linter.unusedSimpArgs false

def xx : ByteArray := { data := #[120, 120, 120, 120] }
def xX : ByteArray := (OpV.mk 0 0 0 0 xx true).block
def x1 : ByteArray := { data := #[120] }
def a1 : SS := SS.new 3
def a2 : SS := (a1.write 1 xX).1
def a3 : SS := a2.fuse 0 2
def a4 : SS := (a3.write 0 xX).1
def a5 : SS := a4.restart
def a6 : SS := (a5.write 2 xX).1
def tT : ByteArray := torn xX zeros 2
theorem e1 : a1.write 1 xX = (a2, 0) := by rfl
theorem e2 : a2.write 3 xX = (a2, 1) := by rfl
theorem e3 : a2.write 1 x1 = (a2, 1) := by rfl
theorem e4 : a3.write 0 xX = (a4, 9) := by rfl
theorem e5 : a4.write 2 xX = (a4, 9) := by rfl
theorem e6 : a5.write 2 xX = (a6, 0) := by rfl
theorem r1 : a4.bl[0]? = some tT := by rfl
theorem r2 : a6.bl[2]? = some xX := by rfl
theorem tT_size : tT.size = 64 := by decide +kernel
theorem tT_ext : tT.extract 0 4 = { data := #[120, 120, 0, 0] } := by decide +kernel
theorem write_is (S G n : Nat) (i : Int) (b : ByteArray) (s s' : SS) (c : Int) (w : World) (h : StW S G n s w) (hok : s.Ok 1000) (e : s.write i b = (s', c)) :
    Calls Try.prog 18 #[.pointer (some ⟨S, 0, none⟩), .int .i64 i, .string b] w (RetS S G n s' w c) := by
  have := write_any S G n i b s w h hok
  rw [e] at this
  exact this
theorem ok_all : a1.Ok 1000 ∧ a2.Ok 1000 ∧ a3.Ok 1000 ∧ a4.Ok 1000 ∧ a5.Ok 1000 ∧ a6.Ok 1000 := by
  have h1 : a1.Ok 0 := SS.Ok.new 3
  have h2 : a2.Ok 1 := h1.write _ _
  have h3 : a3.Ok 1 := h2.fuse (by unfold I64'; omega) (by unfold I64'; omega)
  have h4 : a4.Ok 2 := h3.write _ _
  have h5 : a5.Ok 2 := h4.restart
  have h6 : a6.Ok 3 := h5.write _ _
  exact ⟨h1.more (by omega), h2.more (by omega), h3.more (by omega), h4.more (by omega), h5.more (by omega), h6.more (by omega)⟩

set_option maxHeartbeats 2000000 in
set_option maxRecDepth 100000 in
theorem awake05 (w : World) : Calls Try.prog 13 #[] w fun e w' => e = .returned (.bool true) ∧ Below w.heap.size w w' := by
  go_enter Try.func13, Try.ntmps13
  go_wp2_with fail
  refine (new_ok 3 w (by omega) (by omega)).mono ?_
  rintro e w1 ⟨S, G, rfl, hS, hG, hst, hb⟩
  have HB := Lib.hid hb
  have HS := Lib.hid hst
  have HSG := Lib.hid (two_above hS hG)
  clear hb hst
  go_wp2_with fail
  refine (new_bad 2 w1 (by omega)).mono ?_
  rintro e w2 ⟨rfl, rfl⟩
  go_wp2_with fail
  refine (block_any 0 0 0 0 xx true _ xX rfl).mono ?_
  rintro e w2 ⟨rfl, hb⟩
  have HS := Lib.hid (HS.out.later hb)
  have HB := Lib.hid (HB.out.trans (hb.mono HB.out.size))
  clear hb
  go_wp2_with fail
  refine (write_is S G 3 1 xX a1 a2 _ _ HS.out ok_all.1 e1).mono ?_
  rintro e w3 ⟨rfl, hst, hfr⟩
  have HS := Lib.hid hst
  have HB := Lib.hid (Fr.then_below HB.out hfr HSG.out)
  clear hst hfr
  go_wp2_with fail
  refine (write_is S G 3 3 xX a2 a2 _ _ HS.out ok_all.2.1 e2).mono ?_
  rintro e w4 ⟨rfl, hst, hfr⟩
  have HS := Lib.hid hst
  have HB := Lib.hid (Fr.then_below HB.out hfr HSG.out)
  clear hst hfr
  go_wp2_with fail
  refine (write_is S G 3 1 x1 a2 a2 _ _ HS.out ok_all.2.1 e3).mono ?_
  rintro e w5 ⟨rfl, hst, hfr⟩
  have HS := Lib.hid hst
  have HB := Lib.hid (Fr.then_below HB.out hfr HSG.out)
  clear hst hfr
  go_wp2_with fail
  refine (fuse_any S G 3 0 2 a2 _ HS.out (by unfold I64'; omega)).mono ?_
  rintro e w6 ⟨rfl, hst, hfr⟩
  have HS := Lib.hid (show StW S G 3 a3 w6 from hst)
  have HB := Lib.hid (Fr.then_below HB.out hfr HSG.out)
  clear hst hfr
  go_wp2_with fail
  refine (write_is S G 3 0 xX a3 a4 _ _ HS.out ok_all.2.2.1 e4).mono ?_
  rintro e w7 ⟨rfl, hst, hfr⟩
  have HS := Lib.hid hst
  have HB := Lib.hid (Fr.then_below HB.out hfr HSG.out)
  clear hst hfr
  go_wp2_with fail
  refine (write_is S G 3 2 xX a4 a4 _ _ HS.out ok_all.2.2.2.1 e5).mono ?_
  rintro e w8 ⟨rfl, hst, hfr⟩
  have HS := Lib.hid hst
  have HB := Lib.hid (Fr.then_below HB.out hfr HSG.out)
  clear hst hfr
  go_wp2_with fail
  refine (read_ok S G 3 0 a4 _ HS.out (by omega) tT r1).mono ?_
  rintro e w9 ⟨rfl, rfl⟩
  go_wp2_with fail
  refine (restart_any S G 3 a4 _ HS.out).mono ?_
  rintro e w10 ⟨rfl, hst, hfr⟩
  have HS := Lib.hid (show StW S G 3 a5 w10 from hst)
  have HB := Lib.hid (Fr.then_below HB.out hfr HSG.out)
  clear hst hfr
  go_wp2_with fail
  refine (write_is S G 3 2 xX a5 a6 _ _ HS.out ok_all.2.2.2.2.1 e6).mono ?_
  rintro e w11 ⟨rfl, hst, hfr⟩
  have HS := Lib.hid hst
  have HB := Lib.hid (Fr.then_below HB.out hfr HSG.out)
  clear hst hfr
  go_wp2_with fail
  refine (read_ok S G 3 2 a6 _ HS.out (by omega) xX r2).mono ?_
  rintro e w12 ⟨rfl, rfl⟩
  go_wp2_with fail
  refine (read_bad S G 3 3 a6 _ HS.out (by omega)).mono ?_
  rintro e w12 ⟨rfl, rfl⟩
  have hts := tT_size
  have htb : ((tT.extract 0 4).toList == [120, 120, 0, 0]) = true := by rw [tT_ext]; decide +kernel
  go_wp2_with fail
  refine (blocks_any S G 3 a6 _ HS.out).mono ?_
  rintro e w12 ⟨rfl, rfl⟩
  go_wp2_with fail
  refine (writes_any S G 3 a6 _ HS.out).mono ?_
  rintro e w12 ⟨rfl, rfl⟩
  have hm : a6.many = 2 := rfl
  go_wp2_with fail
  go_ret
  exact ⟨rfl, HB.out⟩
end Go.Proofs.Ytdapcahphaldjaa.Store

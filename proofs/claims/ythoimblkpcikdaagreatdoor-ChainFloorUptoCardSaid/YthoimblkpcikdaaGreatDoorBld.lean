/- strings.Builder's check at this dump: it stores its own address, or finds it. -/
import Derived.Test.YthoimblkpcikdaaGreatDoorProg
import Derived.Shelf.Strings.Builder1
namespace Go.Proofs
open Go.Shelf Go.RowKit
set_option maxHeartbeats 1000000 in
set_option maxRecDepth 100000 in
theorem Tryz.bld_used (b:Nat)(w:World)(h0:w.cell? ⟨b,0,none⟩=some (.pointer (some ⟨b,0,none⟩))) :
   Calls Tryz.prog 175 #[.pointer (some ⟨b,0,none⟩)] w fun e w'=>e=.returned (.tuple #[])/\w' = w:=by
 obtain ⟨j,hj,_⟩:∃ j,Tryz.prog.info? 252=some j/\j.size=2:=Option.map_eq_some_iff.1 (show (Tryz.prog.info? 252).map (·.size)=some 2 by kernel_rfl)
 go_enter Tryz.func175,Tryz.ntmps175
 go_wp2
 rw [Lib.run_neq_ptr_same w _ Tryz.underlying250 hj]
 go_wp2
 go_end0
 exact ⟨rfl,rfl⟩
set_option maxHeartbeats 1000000 in
set_option maxRecDepth 100000 in
theorem Tryz.bld_fresh (b:Nat)(w:World)(h0:w.cell? ⟨b,0,none⟩=some (.pointer none))(hsh:w.shape? b=some (252,2))(hfz:w.frozen? ⟨b,0,none⟩=false) :
   Calls Tryz.prog 175 #[.pointer (some ⟨b,0,none⟩)] w fun e w'=>e=.returned (.tuple #[])/\w' = w.setCell ⟨b,0,none⟩ (.pointer (some ⟨b,0,none⟩)):=by
 obtain ⟨j,hj,hjs⟩:∃ j,Tryz.prog.info? 252=some j/\j.size=2:=Option.map_eq_some_iff.1 (show (Tryz.prog.info? 252).map (·.size)=some 2 by kernel_rfl)
 go_enter Tryz.func175,Tryz.ntmps175
 go_wp2
 rw [Lib.run_to_unsafe w ⟨b,0,none⟩ Tryz.underlying250 Tryz.underlying294 hj (by rw [hjs]; decide) hsh (Nat.zero_lt_succ 1)]
 simp only [Result.andThen]
 rw [Oper.upon_value]
 go_wp2
 rw [run_callFunc_extern Tryz.func188 (by kernel_rfl) (by kernel_rfl) (by kernel_rfl) (e:=Extern.AbiNoEscape.same) (by kernel_rfl)]
 rw [Lib.run_noEscape]
 simp only [Result.andThen]
 rw [Oper.upon_value]
 go_wp2
 rw [Lib.run_from_unsafe w ⟨b,0,none⟩ Tryz.underlying294 Tryz.underlying250 hj hsh (by kernel_rfl)]
 simp only [Result.andThen]
 rw [Oper.upon_value]
 go_wp2
 go_end0
 exact ⟨rfl,rfl⟩
end Go.Proofs

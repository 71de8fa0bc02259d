/- strings.Builder's check at this dump: it stores its own address, or finds it. -/
import Derived.Test.YtobfoiomjfdjjaaDoorProg
import Derived.Shelf.Strings.Builder1
namespace Go.Proofs
open Go.Shelf Go.RowKit
set_option maxHeartbeats 1000000 in
set_option maxRecDepth 100000 in
theorem Tryd.bld_used (b:Nat)(w:World)(h0:w.cell? ⟨b,0,none⟩=some (.pointer (some ⟨b,0,none⟩))) :
   Calls Tryd.prog 87 #[.pointer (some ⟨b,0,none⟩)] w fun e w'=>e=.returned (.tuple #[])/\w' = w:=by
 obtain ⟨j,hj,_⟩:∃ j,Tryd.prog.info? 107=some j/\j.size=2:=Option.map_eq_some_iff.1 (show (Tryd.prog.info? 107).map (·.size)=some 2 by kernel_rfl)
 go_enter Tryd.func87,Tryd.ntmps87
 go_wp2
 rw [Lib.run_neq_ptr_same w _ Tryd.underlying104 hj]
 go_wp2
 go_end0
 exact ⟨rfl,rfl⟩
set_option maxHeartbeats 1000000 in
set_option maxRecDepth 100000 in
theorem Tryd.bld_fresh (b:Nat)(w:World)(h0:w.cell? ⟨b,0,none⟩=some (.pointer none))(hsh:w.shape? b=some (107,2))(hfz:w.frozen? ⟨b,0,none⟩=false) :
   Calls Tryd.prog 87 #[.pointer (some ⟨b,0,none⟩)] w fun e w'=>e=.returned (.tuple #[])/\w' = w.setCell ⟨b,0,none⟩ (.pointer (some ⟨b,0,none⟩)):=by
 obtain ⟨j,hj,hjs⟩:∃ j,Tryd.prog.info? 107=some j/\j.size=2:=Option.map_eq_some_iff.1 (show (Tryd.prog.info? 107).map (·.size)=some 2 by kernel_rfl)
 go_enter Tryd.func87,Tryd.ntmps87
 go_wp2
 rw [Lib.run_to_unsafe w ⟨b,0,none⟩ Tryd.underlying104 Tryd.underlying155 hj (by rw [hjs]; decide) hsh (Nat.zero_lt_succ 1)]
 simp only [Result.andThen]
 rw [Oper.upon_value]
 go_wp2
 rw [run_callFunc_extern Tryd.func96 (by kernel_rfl) (by kernel_rfl) (by kernel_rfl) (e:=Extern.AbiNoEscape.same) (by kernel_rfl)]
 rw [Lib.run_noEscape]
 simp only [Result.andThen]
 rw [Oper.upon_value]
 go_wp2
 rw [Lib.run_from_unsafe w ⟨b,0,none⟩ Tryd.underlying155 Tryd.underlying104 hj hsh (by kernel_rfl)]
 simp only [Result.andThen]
 rw [Oper.upon_value]
 go_wp2
 go_end0
 exact ⟨rfl,rfl⟩
end Go.Proofs
